/- Whole numbers as floats: what the float operations of the model give at words that stand for whole numbers of less than 53 bits. No program in sight. -/
import Derived.Laws.FloatArith
import Derived.Laws.ComplexArith
namespace Go.Proofs.YtbhkclkahblfnaaGreatDoor
namespace Flo
open Ieee

/-- the word of a whole number -/
def W (n : Int) : Nat := floatOfInt .f64 n
/-- the word of -0 -/
def NZ : Nat := 9223372036854775808
def sg (s : Bool) (m : Nat) : Int := if s then -(m : Int) else m
/-- the datum is the whole number n -/
def Is (d : Datum) (n : Int) : Prop := ∃ (s : Bool) (j : Nat), d = .number s (n.natAbs * 2 ^ j) (-(j : Int)) ∧ (n ≠ 0 → s = decide (n < 0))
/-- the word is the whole number n, up to the sign of nought -/
def IsW (x : Nat) (n : Int) : Prop := x = W n ∨ (n = 0 ∧ x = NZ)
/-- the word of sign and magnitude -/
def R (s : Bool) (k : Nat) : Nat := if k = 0 then (if s then NZ else 0) else (if s then NZ else 0) + ((k.log2 + 1022) * 4503599627370496 + k * 2 ^ (52 - k.log2))

theorem binade_eq : double.binade = 4503599627370496 := by decide
theorem lp_eq : double.leastPlace = -1074 := by decide
theorem inf_eq : double.infRung = 2047 * 4503599627370496 := by decide
theorem sw_eq : double.signWeight = 9223372036854775808 := by decide
theorem word_eq (s : Bool) (r : Nat) : double.word s r = (if s then NZ else 0) + r := by
  unfold Format.word; rw [sw_eq]; cases s <;> simp [NZ]

theorem log2_mul (k j : Nat) (h : k ≠ 0) : (k * 2 ^ j).log2 = k.log2 + j := by
  have hp : 0 < 2 ^ j := Nat.two_pow_pos j
  rw [Nat.log2_eq_iff (by exact Nat.mul_ne_zero h (by omega))]
  have h1 := Nat.log2_self_le h
  have h2 := @Nat.lt_log2_self k
  constructor
  · rw [Nat.pow_add]; exact Nat.mul_le_mul_right _ h1
  · rw [show k.log2 + j + 1 = (k.log2 + 1) + j from by omega, Nat.pow_add]; exact Nat.mul_lt_mul_of_pos_right h2 hp

theorem log2_le52 (k : Nat) (h : k < 9007199254740992) : k.log2 ≤ 52 := by
  by_cases h0 : k = 0
  · subst h0; decide
  · have := (Nat.log2_lt h0 (k := 53)).2 (by omega); omega

theorem full_lo (k : Nat) (h0 : k ≠ 0) (h : k < 9007199254740992) : 4503599627370496 ≤ k * 2 ^ (52 - k.log2) := by
  have h1 := Nat.log2_self_le h0
  have h3 := log2_le52 k h
  have : 2 ^ k.log2 * 2 ^ (52 - k.log2) = 4503599627370496 := by rw [← Nat.pow_add, show k.log2 + (52 - k.log2) = 52 from by omega]
  rw [← this]; exact Nat.mul_le_mul_right _ h1
theorem full_hi (k : Nat) (h : k < 9007199254740992) : k * 2 ^ (52 - k.log2) < 9007199254740992 := by
  have h2 := @Nat.lt_log2_self k
  have h3 := log2_le52 k h
  have : 2 ^ (k.log2 + 1) * 2 ^ (52 - k.log2) = 9007199254740992 := by rw [← Nat.pow_add, show k.log2 + 1 + (52 - k.log2) = 53 from by omega]
  rw [← this]; exact Nat.mul_lt_mul_of_pos_right h2 (Nat.two_pow_pos _)

theorem cut_zero (s : Bool) (n : Nat) : Toward.even.cut s n 0 = n := by
  unfold Toward.cut; simp [Nat.mod_one]
theorem cut_exact (s : Bool) (n d : Nat) (h : n ≠ 0) : Toward.even.cut s (n * 2 ^ d) d = n := by
  unfold Toward.cut
  have hm : min d ((n * 2 ^ d).log2 + 2) = d := by rw [log2_mul _ _ h]; omega
  have hp : 0 < 2 ^ d := Nat.two_pow_pos d
  simp only [hm, Nat.one_shiftLeft, Nat.mul_mod_left, Nat.mul_zero, Nat.mul_div_cancel _ hp]
  have : ¬ 2 ^ d < 0 := by omega
  have h2 : (2 ^ d == 0) = false := by simp
  simp [this, h2]

/-- rounding of a whole number of at most 53 bits, however it is placed -/
theorem nearest_val (s : Bool) (k j : Nat) (h : k < 9007199254740992) : double.nearest s (k * 2 ^ j) (-(j : Int)) = R s k := by
  unfold Format.nearest R
  by_cases h0 : k = 0
  · subst h0; simp [word_eq]
  have hp : 0 < 2 ^ j := Nat.two_pow_pos j
  have hl := log2_le52 k h
  have hlo := full_lo k h0 h
  have hhi := full_hi k h
  rw [if_neg (Nat.mul_ne_zero h0 (by omega)), if_neg h0]
  have e1 : (-(j : Int) + ((k * 2 ^ j).log2 : Int) - (double.fractionBits : Int)) = (k.log2 : Int) - 52 := by
    rw [log2_mul _ _ h0]; simp only [double]; omega
  simp only [e1, lp_eq, binade_eq, inf_eq]
  have e2 : max ((k.log2 : Int) - 52) (-1074) = (k.log2 : Int) - 52 := by omega
  rw [e2]
  have e3 : ((k.log2 : Int) - 52 - -1074).toNat = k.log2 + 1022 := by omega
  rw [e3]
  have e4 : Toward.even.cut s ((k * 2 ^ j) <<< (-(j : Int) - ((k.log2 : Int) - 52)).toNat) ((k.log2 : Int) - 52 - -(j : Int)).toNat = k * 2 ^ (52 - k.log2) := by
    by_cases hj : j ≤ 52 - k.log2
    · rw [show ((k.log2 : Int) - 52 - -(j : Int)).toNat = 0 from by omega, cut_zero, Nat.shiftLeft_eq, Nat.mul_assoc, ← Nat.pow_add]
      congr 2; omega
    · rw [show (-(j : Int) - ((k.log2 : Int) - 52)).toNat = 0 from by omega, Nat.shiftLeft_zero]
      rw [show ((k.log2 : Int) - 52 - -(j : Int)).toNat = j - (52 - k.log2) from by omega]
      have : k * 2 ^ j = (k * 2 ^ (52 - k.log2)) * 2 ^ (j - (52 - k.log2)) := by
        rw [Nat.mul_assoc, ← Nat.pow_add]; congr 2; omega
      rw [this, cut_exact _ _ _ (by omega)]
  rw [e4, word_eq, Nat.min_eq_left (by omega)]

theorem W_eq (n : Int) (h : n.natAbs < 9007199254740992) : W n = R (decide (n < 0)) n.natAbs := by
  have := nearest_val (decide (n < 0)) n.natAbs 0 h
  simpa [W, floatOfInt, FloatKind.nearest, FloatKind.encode, FloatKind.format, Format.write] using this

theorem R_div (s : Bool) (k : Nat) (h : k < 9007199254740992) : (R s k / 9223372036854775808 % 2 == 1) = s := by
  have hl := log2_le52 k h
  have hhi := full_hi k h
  unfold R NZ
  by_cases h0 : k = 0
  · subst h0; cases s <;> decide
  rw [if_neg h0]; cases s
  · simp only [Bool.false_eq_true, if_false]; rw [Nat.div_eq_of_lt (by omega)]; rfl
  · simp only [if_true]; rw [show (9223372036854775808 + ((k.log2 + 1022) * 4503599627370496 + k * 2 ^ (52 - k.log2))) / 9223372036854775808 = 1 from by omega]; rfl
theorem R_mod (s : Bool) (k : Nat) (h : k < 9007199254740992) : R s k % 9223372036854775808 = if k = 0 then 0 else (k.log2 + 1022) * 4503599627370496 + k * 2 ^ (52 - k.log2) := by
  have hl := log2_le52 k h
  have hhi := full_hi k h
  unfold R NZ
  by_cases h0 : k = 0
  · subst h0; cases s <;> decide
  rw [if_neg h0, if_neg h0]; cases s
  · simp only [Bool.false_eq_true, if_false]; omega
  · simp only [if_true]; omega
theorem R_lt (s : Bool) (k : Nat) (h : k < 9007199254740992) : R s k < 18446744073709551616 := by
  have hl := log2_le52 k h
  have hhi := full_hi k h
  unfold R NZ
  by_cases h0 : k = 0
  · subst h0; cases s <;> decide
  rw [if_neg h0]; cases s
  · simp only [Bool.false_eq_true, if_false]; omega
  · simp only [if_true]; omega

/-- reading such a word -/
theorem read_R (s : Bool) (k : Nat) (h : k < 9007199254740992) :
    double.read (R s k) = if k = 0 then .number s 0 (-1074) else .number s (k * 2 ^ (52 - k.log2)) (-((52 - k.log2 : Nat) : Int)) := by
  have hl := log2_le52 k h
  have hhi := full_hi k h
  unfold Format.read
  rw [sw_eq, R_div s k h, R_mod s k h, binade_eq, inf_eq, lp_eq]
  by_cases h0 : k = 0
  · simp [h0]
  have hlo := full_lo k h0 h
  simp only [if_neg h0]
  rw [if_neg (by omega), if_pos (by omega)]
  congr 1
  · omega
  · omega

theorem is_zero (s : Bool) (j : Nat) : Is (.number s 0 (-(j : Int))) 0 := ⟨s, j, by simp, by simp⟩
theorem is_R (s : Bool) (k : Nat) (h : k < 9007199254740992) : Is (double.read (R s k)) (sg s k) := by
  rw [read_R s k h]
  by_cases h0 : k = 0
  · subst h0; rw [if_pos rfl, show sg s 0 = 0 from by cases s <;> rfl]; exact is_zero s 1074
  · rw [if_neg h0]
    exact ⟨s, 52 - k.log2, by cases s <;> simp [sg], fun _ => by cases s <;> simp [sg] <;> omega⟩

theorem isW_iff {x : Nat} {n : Int} (h : n.natAbs < 9007199254740992) (hx : IsW x n) : ∃ s, x = R s n.natAbs ∧ sg s n.natAbs = n := by
  rcases hx with rfl | ⟨rfl, rfl⟩
  · exact ⟨_, W_eq n h, by unfold sg; split <;> simp_all <;> omega⟩
  · exact ⟨true, by decide, by decide⟩

theorem isW_read {x : Nat} {n : Int} (h : n.natAbs < 9007199254740992) (hx : IsW x n) : Is (double.read x) n := by
  obtain ⟨s, rfl, hs⟩ := isW_iff h hx
  have := is_R s n.natAbs h
  rwa [hs] at this

theorem R_isW {s : Bool} {n : Int} (h : n.natAbs < 9007199254740992) (hs : n ≠ 0 → s = decide (n < 0)) : IsW (R s n.natAbs) n := by
  by_cases h0 : n = 0
  · subst h0; cases s
    · exact .inl (by rw [W_eq 0 h]; rfl)
    · exact .inr ⟨rfl, rfl⟩
  · rw [hs h0]; exact .inl (W_eq n h).symm

theorem write_is {d : Datum} {n : Int} (h : n.natAbs < 9007199254740992) (hd : Is d n) : IsW (double.write d) n := by
  obtain ⟨s, j, rfl, hs⟩ := hd
  unfold Format.write
  simp only [nearest_val s _ j h]
  exact R_isW h hs

theorem W_isW (n : Int) : IsW (W n) n := .inl rfl
theorem W_lt (n : Int) (h : n.natAbs < 9007199254740992) : W n < 18446744073709551616 := by rw [W_eq n h]; exact R_lt _ _ h

theorem signed_is {s : Bool} {n : Int} (j u : Nat) (hs : n ≠ 0 → s = decide (n < 0)) : signed s (n.natAbs * 2 ^ j) u = n * 2 ^ (j + u) := by
  unfold signed
  rw [Nat.shiftLeft_eq, Nat.mul_assoc, ← Nat.pow_add]
  by_cases h0 : n = 0
  · subst h0; simp
  · rw [hs h0]
    by_cases hn : n < 0
    · simp only [hn, decide_true, if_true]
      have : n = -(n.natAbs : Int) := by omega
      rw [Int.natCast_mul]
      conv => rhs; rw [this]
      rw [Int.neg_mul]; simp
    · simp only [hn, decide_false, Bool.false_eq_true, if_false]
      have : n = (n.natAbs : Int) := by omega
      rw [Int.natCast_mul]
      conv => rhs; rw [this]
      simp

theorem sum_is {d e : Datum} {a b : Int} (hd : Is d a) (he : Is e b) : ∃ f, d.sum e = some f ∧ Is f (a + b) := by
  obtain ⟨s, i, rfl, hs⟩ := hd
  obtain ⟨t, j, rfl, ht⟩ := he
  refine ⟨_, rfl, ?_⟩
  have hb : min (-(i : Int)) (-(j : Int)) = -((max i j : Nat) : Int) := by omega
  rw [hb, signed_is i _ hs, signed_is j _ ht]
  rw [show i + (-(i : Int) - -((max i j : Nat) : Int)).toNat = max i j from by omega, show j + (-(j : Int) - -((max i j : Nat) : Int)).toNat = max i j from by omega, ← Int.add_mul]
  have hp : (0 : Int) < 2 ^ (max i j) := Int.pow_pos (by decide)
  refine ⟨if (a + b) * 2 ^ (max i j) = 0 then s && t else decide ((a + b) * 2 ^ (max i j) < 0), max i j, ?_, ?_⟩
  · rw [Int.natAbs_mul, Int.natAbs_pow]; rfl
  · intro h
    rw [if_neg (by simp only [Int.mul_eq_zero, h, false_or]; omega)]
    have : (a + b) * 2 ^ (max i j) < 0 ↔ a + b < 0 := by
      constructor
      · intro hl; exact Int.not_le.1 fun h0 => absurd (Int.mul_nonneg h0 (Int.le_of_lt hp)) (by omega)
      · intro hl; exact Int.mul_neg_of_neg_of_pos hl hp
    simp only [this]

theorem opposite_is {d : Datum} {a : Int} (hd : Is d a) : Is d.opposite (-a) := by
  obtain ⟨s, i, rfl, hs⟩ := hd
  refine ⟨!s, i, by simp [Datum.opposite], ?_⟩
  intro h; rw [hs (by omega)]
  by_cases hn : a < 0 <;> simp [hn] <;> omega

theorem product_is {d e : Datum} {a b : Int} (hd : Is d a) (he : Is e b) : ∃ f, d.product e = some f ∧ Is f (a * b) := by
  obtain ⟨s, i, rfl, hs⟩ := hd
  obtain ⟨t, j, rfl, ht⟩ := he
  refine ⟨_, rfl, s ^^ t, i + j, ?_, ?_⟩
  · congr 1
    · rw [Int.natAbs_mul, Nat.pow_add]; simp only [Nat.mul_assoc, Nat.mul_left_comm]
    · omega
  · intro h
    have ha : a ≠ 0 := fun h' => h (by simp [h'])
    have hb : b ≠ 0 := fun h' => h (by simp [h'])
    rw [hs ha, ht hb]
    by_cases h1 : a < 0 <;> by_cases h2 : b < 0
    · have := Int.mul_pos_of_neg_of_neg h1 h2; simp [h1, h2]; omega
    · have := Int.mul_neg_of_neg_of_pos h1 (show 0 < b by omega); simp [h1, h2, this]
    · have := Int.mul_neg_of_pos_of_neg (show 0 < a by omega) h2; simp [h1, h2, this]
    · have := Int.mul_pos (show 0 < a by omega) (show 0 < b by omega); simp [h1, h2]; omega

theorem compare_mul (a b : Int) (k : Nat) : compare (a * 2 ^ k) (b * 2 ^ k) = compare a b := by
  have hp : (0 : Int) < 2 ^ k := Int.pow_pos (by decide)
  rcases Int.lt_trichotomy a b with h | h | h
  · rw [Int.compare_eq_lt.2 h, Int.compare_eq_lt.2 (Int.mul_lt_mul_of_pos_right h hp)]
  · subst h; simp
  · rw [Int.compare_eq_gt.2 h, Int.compare_eq_gt.2 (Int.mul_lt_mul_of_pos_right h hp)]

theorem order_is {d e : Datum} {a b : Int} (hd : Is d a) (he : Is e b) : d.order e = some (compare a b) := by
  obtain ⟨s, i, rfl, hs⟩ := hd
  obtain ⟨t, j, rfl, ht⟩ := he
  have hb : min (-(i : Int)) (-(j : Int)) = -((max i j : Nat) : Int) := by omega
  simp only [Datum.order]
  rw [hb, signed_is i _ hs, signed_is j _ ht]
  rw [show i + (-(i : Int) - -((max i j : Nat) : Int)).toNat = max i j from by omega, show j + (-(j : Int) - -((max i j : Nat) : Int)).toNat = max i j from by omega, compare_mul]

/-- the order of whatever finite datum and a whole number -/
theorem order_num {e : Datum} {b : Int} (s : Bool) (m j : Nat) (he : Is e b) : (Datum.number s m (-(j : Int))).order e = some (compare (sg s m) (b * 2 ^ j)) := by
  obtain ⟨t, i, rfl, ht⟩ := he
  have hb : min (-(j : Int)) (-(i : Int)) = -((max i j : Nat) : Int) := by omega
  simp only [Datum.order]
  rw [hb, signed_is i _ ht]
  have e1 : signed s m (-(j : Int) - -((max i j : Nat) : Int)).toNat = sg s m * 2 ^ (max i j - j) := by
    unfold signed sg
    rw [Nat.shiftLeft_eq, show (-(j : Int) - -((max i j : Nat) : Int)).toNat = max i j - j from by omega]
    cases s <;> simp [Int.neg_mul]
  rw [e1, show i + (-(i : Int) - -((max i j : Nat) : Int)).toNat = j + (max i j - j) from by omega, Int.pow_add, ← Int.mul_assoc, compare_mul]

theorem fmt : FloatKind.f64.format = double := rfl

/-! ### on words -/
theorem add_w {x y : Nat} {a b : Int} (ha : a.natAbs < 9007199254740992) (hb : b.natAbs < 9007199254740992) (hx : IsW x a) (hy : IsW y b) (h : (a + b).natAbs < 9007199254740992) :
    ∃ r, floatBits .add .f64 x y = some r ∧ IsW r (a + b) := by
  obtain ⟨f, hf, hi⟩ := sum_is (isW_read ha hx) (isW_read hb hy)
  exact ⟨double.write f, by simp [floatBits, fmt, Format.add, hf], write_is h hi⟩
theorem sub_w {x y : Nat} {a b : Int} (ha : a.natAbs < 9007199254740992) (hb : b.natAbs < 9007199254740992) (hx : IsW x a) (hy : IsW y b) (h : (a - b).natAbs < 9007199254740992) :
    ∃ r, floatBits .sub .f64 x y = some r ∧ IsW r (a - b) := by
  obtain ⟨f, hf, hi⟩ := sum_is (isW_read ha hx) (opposite_is (isW_read hb hy))
  exact ⟨double.write f, by simp [floatBits, fmt, Format.sub, hf], write_is h (by rwa [Int.sub_eq_add_neg])⟩
theorem mul_w {x y : Nat} {a b : Int} (ha : a.natAbs < 9007199254740992) (hb : b.natAbs < 9007199254740992) (hx : IsW x a) (hy : IsW y b) (h : (a * b).natAbs < 9007199254740992) :
    ∃ r, floatBits .mul .f64 x y = some r ∧ IsW r (a * b) := by
  obtain ⟨f, hf, hi⟩ := product_is (isW_read ha hx) (isW_read hb hy)
  exact ⟨double.write f, by simp [floatBits, fmt, Format.mul, hf], write_is h hi⟩
theorem order_w {x y : Nat} {a b : Int} (ha : a.natAbs < 9007199254740992) (hb : b.natAbs < 9007199254740992) (hx : IsW x a) (hy : IsW y b) :
    FloatKind.f64.format.order x y = some (compare a b) := by
  simp only [fmt, Format.order]; exact order_is (isW_read ha hx) (isW_read hb hy)
/-- '+0' takes the sign off nought -/
theorem add0_w {x : Nat} {a : Int} (ha : a.natAbs < 9007199254740992) (hx : IsW x a) : floatBits .add .f64 x 0 = some (W a) := by
  rcases hx with rfl | ⟨rfl, rfl⟩
  · by_cases h0 : a = 0
    · subst h0; decide
    · obtain ⟨r, hr, hw⟩ := add_w ha (b := 0) (by decide) (W_isW a) (y := 0) (.inl (by decide)) (by simpa using ha)
      rw [hr]; rcases hw with rfl | ⟨h, _⟩
      · simp
      · omega
  · decide
end Flo
end Go.Proofs.YtbhkclkahblfnaaGreatDoor
