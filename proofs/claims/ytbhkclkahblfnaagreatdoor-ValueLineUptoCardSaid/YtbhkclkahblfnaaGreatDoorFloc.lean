/- Turning round, dividing and cutting apart words of whole numbers, bit by bit. No program in sight. -/
import Derived.Test.YtbhkclkahblfnaaGreatDoorFlob
namespace Go.Proofs.YtbhkclkahblfnaaGreatDoor
namespace Flo
open Ieee

theorem xor_top (r : Nat) (h : r < 9223372036854775808) : r ^^^ 9223372036854775808 = 9223372036854775808 + r := by
  apply Nat.eq_of_testBit_eq
  intro i
  rw [Nat.testBit_xor, show (9223372036854775808 : Nat) = 2 ^ 63 from by decide]
  by_cases hi : i = 63
  · subst hi; rw [Nat.testBit_two_pow_add_eq, Nat.testBit_two_pow_self]; cases Nat.testBit r 63 <;> rfl
  · rw [Nat.testBit_two_pow_of_ne (fun h' => hi h'.symm)]
    rcases Nat.lt_or_gt_of_ne hi with h' | h'
    · rw [Nat.testBit_two_pow_add_gt h']; simp
    · have h64 : 2 ^ 64 ≤ 2 ^ i := Nat.pow_le_pow_right (by omega) (by omega)
      rw [Nat.testBit_lt_two_pow (show r < 2 ^ i by omega), Nat.testBit_lt_two_pow (show 2 ^ 63 + r < 2 ^ i by omega)]; rfl
theorem xor_top' (r : Nat) (h : r < 9223372036854775808) : (9223372036854775808 + r) ^^^ 9223372036854775808 = r := by
  rw [← xor_top r h, Nat.xor_assoc, Nat.xor_self, Nat.xor_zero]

theorem R_false_lt (k : Nat) (h : k < 9007199254740992) : R false k < 9223372036854775808 := by
  have hl := log2_le52 k h
  have hhi := full_hi k h
  unfold R
  by_cases h0 : k = 0
  · subst h0; decide
  · rw [if_neg h0]; simp only [Bool.false_eq_true, if_false]; omega
theorem R_true (k : Nat) : R true k = 9223372036854775808 + R false k := by
  unfold R NZ
  by_cases h0 : k = 0
  · subst h0; simp
  · rw [if_neg h0, if_neg h0]; simp

theorem neg_R (s : Bool) (k : Nat) (h : k < 9007199254740992) : Op.negFloat .f64 (R s k) = R (!s) k := by
  have hlt := R_false_lt k h
  show R s k ^^^ 2 ^ 63 = _
  rw [show (2 : Nat) ^ 63 = 9223372036854775808 from by decide]
  cases s
  · rw [xor_top _ hlt, Bool.not_false, R_true]
  · rw [R_true, xor_top' _ hlt, Bool.not_true]

theorem neg_w {x : Nat} {a : Int} (ha : a.natAbs < 9007199254740992) (hx : IsW x a) : IsW (Op.negFloat .f64 x) (-a) := by
  obtain ⟨s, rfl, hs⟩ := isW_iff ha hx
  rw [neg_R s _ ha]
  have := R_isW_sg (!s) a.natAbs ha
  rwa [show sg (!s) a.natAbs = -a from by rw [← hs, sg_abs]; cases s <;> simp [sg]] at this

/-! ### quotients -/
theorem isW_data {x : Nat} {a : Int} (ha : a.natAbs < 9007199254740992) (hx : IsW x a) : ∃ (s : Bool) (j : Nat), double.read x = .number s (a.natAbs * 2 ^ j) (-(j : Int)) ∧ (a ≠ 0 → s = decide (a < 0)) ∧ (a ≠ 0 → (a.natAbs * 2 ^ j).log2 = 52 ∧ j ≤ 52) ∧ (a = 0 → j = 1074) := by
  obtain ⟨s, rfl, hs⟩ := isW_iff ha hx
  rw [read_R s _ ha]
  by_cases h0 : a.natAbs = 0
  · rw [if_pos h0]
    have hz : ∀ j : Nat, Datum.number s 0 (-(j : Int)) = .number s (a.natAbs * 2 ^ j) (-(j : Int)) := fun j => by rw [h0, Nat.zero_mul]
    exact ⟨s, 1074, hz 1074, fun h => by omega, fun h => by omega, fun _ => rfl⟩
  · rw [if_neg h0]
    have hl := log2_le52 a.natAbs ha
    refine ⟨s, 52 - a.natAbs.log2, rfl, fun h => ?_, fun h => ⟨?_, by omega⟩, fun h => by omega⟩
    · unfold sg at hs; cases s <;> simp at hs <;> simp <;> omega
    · rw [log2_mul _ _ h0]; omega

theorem div_w {x y : Nat} {b q : Int} (hb : b.natAbs < 9007199254740992) (hq : q.natAbs < 9007199254740992) (hbq : (b * q).natAbs < 9007199254740992) (h0 : b ≠ 0) (hx : IsW x (b * q)) (hy : IsW y b) :
    ∃ r, floatBits .quo .f64 x y = some r ∧ IsW r q := by
  obtain ⟨s, i, hrx, hsx, hlx, hzx⟩ := isW_data hbq hx
  obtain ⟨t, j, hry, hty, hly, _⟩ := isW_data hb hy
  obtain ⟨hl, hj⟩ := hly h0
  have hp : 0 < 2 ^ j := Nat.two_pow_pos j
  have hn0 : b.natAbs * 2 ^ j ≠ 0 := Nat.mul_ne_zero (by omega) (by omega)
  have hd : ∃ f, (double.read x).quotient 54 (double.read y) = some f ∧ Is f q := by
    rw [hrx, hry]
    unfold Datum.quotient
    simp only [if_neg hn0, hl]
    refine ⟨_, rfl, ?_⟩
    by_cases hq0 : q = 0
    · subst hq0
      rw [hzx (by simp)]
      simp only [Int.mul_zero, Int.natAbs_zero, Nat.zero_mul, Nat.zero_shiftLeft, Nat.zero_div, Nat.zero_mod, Nat.log2_zero, Nat.mul_zero, Nat.zero_add, bne_self_eq_false, Bool.toNat_false]
      have e : (-(1074 : Nat) : Int) - -(j : Int) - ((54 + 52 - 0 : Nat) : Int) - 1 = -((1181 - j : Nat) : Int) := by omega
      rw [e]; exact is_zero _ _
    · have hne : b * q ≠ 0 := Int.mul_ne_zero h0 hq0
      obtain ⟨hlx', hi⟩ := hlx hne
      rw [hlx', show 54 + 52 - 52 = 54 from rfl, Nat.shiftLeft_eq, Int.natAbs_mul]
      have e1 : b.natAbs * q.natAbs * 2 ^ i * 2 ^ 54 = (b.natAbs * 2 ^ j) * (q.natAbs * 2 ^ (i + 54 - j)) := by
        have : 2 ^ i * 2 ^ 54 = 2 ^ j * 2 ^ (i + 54 - j) := by rw [← Nat.pow_add, ← Nat.pow_add]; congr 1; omega
        rw [Nat.mul_assoc, this]; simp only [Nat.mul_assoc, Nat.mul_left_comm]
      rw [e1, Nat.mul_div_cancel_left _ (by omega), Nat.mul_mod_right]
      have e2 : -(i : Int) - -(j : Int) - (54 : Nat) - 1 = -((i + 54 - j + 1 : Nat) : Int) := by omega
      have e3 : 2 * (q.natAbs * 2 ^ (i + 54 - j)) + (0 != 0 : Bool).toNat = q.natAbs * 2 ^ (i + 54 - j + 1) := by
        rw [Nat.pow_succ]; simp; rw [Nat.mul_comm 2, Nat.mul_assoc]
      rw [e2, e3]
      refine ⟨_, _, rfl, fun _ => ?_⟩
      rw [hsx hne, hty h0]
      by_cases h1 : b < 0 <;> by_cases h2 : q < 0
      · have := Int.mul_pos_of_neg_of_neg h1 h2; simp [h1, h2]; omega
      · have := Int.mul_neg_of_neg_of_pos h1 (show 0 < q by omega); simp [h1, h2, this]
      · have := Int.mul_neg_of_pos_of_neg (show 0 < b by omega) h2; simp [h1, h2, this]
      · have := Int.mul_pos (show 0 < b by omega) (show 0 < q by omega); simp [h1, h2]; omega
  obtain ⟨f, hf, hi⟩ := hd
  refine ⟨double.write f, ?_, write_is hq hi⟩
  show (((double.read x).quotient (double.fractionBits + 2) (double.read y)).map double.write) = _
  rw [show double.fractionBits + 2 = 54 from rfl, hf]; rfl

/-! ### the words of whole numbers above nought, bit by bit -/
/-- the fraction of such a word -/
def fr (k : Nat) : Nat := k * 2 ^ (52 - k.log2) - 4503599627370496
theorem fr_lt (k : Nat) (h : k < 9007199254740992) : fr k < 4503599627370496 := by have := full_hi k h; unfold fr; omega
theorem R_bits (k : Nat) (h0 : k ≠ 0) (h : k < 9007199254740992) : R false k = (k.log2 + 1023) * 4503599627370496 + fr k := by
  have hlo := full_lo k h0 h
  unfold R fr; rw [if_neg h0]; simp only [Bool.false_eq_true, if_false]; omega
theorem fr_mul (k j : Nat) (h0 : k ≠ 0) (h : k * 2 ^ j < 9007199254740992) : fr (k * 2 ^ j) = fr k := by
  have hl := log2_le52 _ h
  rw [log2_mul _ _ h0] at hl
  unfold fr; rw [log2_mul _ _ h0, Nat.mul_assoc, ← Nat.pow_add, show j + (52 - (k.log2 + j)) = 52 - k.log2 from by omega]

/-- within the walk: a word of exponent E and fraction M -/
theorem shr_and (E M : Nat) (hE : E < 2048) (hM : M < 4503599627370496) : bits BinOp.and IntKind.u64 (((E * 4503599627370496 + M : Nat) : Int) / 4503599627370496) 2047 = (E : Int) := by
  have e : ((E * 4503599627370496 + M : Nat) : Int) / 4503599627370496 = (E : Int) := by omega
  rw [e]
  have := u64_and_nat E 2047 (by omega) (by decide)
  rw [nat_mask11] at this
  simpa [Nat.mod_eq_of_lt hE] using this
theorem andNot_exp (E M : Nat) (hE : E < 2048) (hM : M < 4503599627370496) : bits BinOp.andNot IntKind.u64 ((E * 4503599627370496 + M : Nat) : Int) 9218868437227405312 = (M : Int) := by
  have := u64_andNot_nat (E * 4503599627370496 + M) 9218868437227405312 (by omega) (by decide)
  refine this.trans ?_
  congr 1
  rw [show (18446744073709551615 - 9218868437227405312 : Nat) = 9223372036854775808 ||| 4503599627370495 from by decide, Nat.and_or_distrib_left]
  have e1 : (E * 4503599627370496 + M) &&& 9223372036854775808 = (E * 4503599627370496 + M) / 9223372036854775808 % 2 * 9223372036854775808 := nat_bit 63 _
  have e2 : (E * 4503599627370496 + M) &&& 4503599627370495 = (E * 4503599627370496 + M) % 4503599627370496 := Nat.and_two_pow_sub_one_eq_mod _ 52
  rw [e1, e2, show (E * 4503599627370496 + M) / 9223372036854775808 = 0 from by omega, show (E * 4503599627370496 + M) % 4503599627370496 = M from by omega]
  simp
theorem andNot_top (b : Nat) (hb : b < 18446744073709551616) : bits BinOp.andNot IntKind.u64 (b : Int) 9223372036854775808 = ((b % 9223372036854775808 : Nat) : Int) := by
  have := u64_andNot_nat b 9223372036854775808 hb (by decide)
  refine this.trans ?_
  congr 1
  exact Nat.and_two_pow_sub_one_eq_mod b 63
theorem or_exp (E M : Nat) (hE : E < 2048) (hM : M < 4503599627370496) : bits BinOp.or IntKind.u64 (M : Int) ((E : Int) * 4503599627370496) = ((E * 4503599627370496 + M : Nat) : Int) := by
  have := u64_or_nat M (E * 4503599627370496) (by omega) (by omega)
  rw [show ((E : Int) * 4503599627370496) = ((E * 4503599627370496 : Nat) : Int) from by omega]
  refine this.trans ?_
  congr 1
  rw [Nat.or_comm]
  exact nat_join 52 _ _ (by show E * 4503599627370496 % 4503599627370496 = 0; omega) hM
theorem and_i64 (E : Nat) (hE : E < 2048) : bits BinOp.and IntKind.i64 (E : Int) 2047 = (E : Int) := by
  have e1 : (BitVec.ofInt 64 (E : Int)).toNat = E := ofInt_u64 E (by omega)
  show IntKind.i64.wrap ((BitVec.ofInt 64 (E : Int) &&& BitVec.ofInt 64 (2047 : Int)).toNat : Int) = _
  rw [BitVec.toNat_and, e1, show (BitVec.ofInt 64 (2047 : Int)).toNat = 2047 from by decide, nat_mask11, Nat.mod_eq_of_lt hE]
  simp [IntKind.wrap, IntKind.bits, IntKind.signed]; omega

theorem W_nat (k : Nat) (h : k < 9007199254740992) : W (k : Int) = R false k := by
  rw [W_eq _ (by simpa using h), show decide ((k : Int) < 0) = false from by simp, Int.natAbs_natCast]
theorem abs_bits {x : Nat} {a : Int} (ha : a.natAbs < 9007199254740992) (hx : IsW x a) : bits BinOp.andNot IntKind.u64 (x : Int) 9223372036854775808 = ((W (a.natAbs : Int) : Nat) : Int) := by
  obtain ⟨s, rfl, hs⟩ := isW_iff ha hx
  rw [andNot_top _ (R_lt s _ ha), W_nat _ ha]
  congr 1
  cases s
  · exact Nat.mod_eq_of_lt (R_false_lt _ ha)
  · rw [R_true]; have := R_false_lt _ ha; omega
theorem ord_self {x : Nat} {a : Int} (ha : a.natAbs < 9007199254740992) (hx : IsW x a) : ord x x = some .eq := by
  rw [ord_eq, order_is (isW_read ha hx) (isW_read ha hx)]; simp
theorem ord_W {a b : Int} (ha : a.natAbs < 9007199254740992) (hb : b.natAbs < 9007199254740992) : ord (W a) (W b) = some (compare a b) := order_w ha hb (W_isW a) (W_isW b)

theorem order_rev {d : Datum} {a : Int} (s : Bool) (m : Nat) (p : Int) (hp : 0 ≤ p) (hd : Is d a) : d.order (.number s m p) = some (compare a (sg s (m * 2 ^ p.toNat))) := by
  obtain ⟨t, i, rfl, ht⟩ := hd
  have hb : min (-(i : Int)) p = -(i : Int) := by omega
  simp only [Datum.order]
  rw [hb, signed_is i _ ht, show i + (-(i : Int) - -(i : Int)).toNat = i from by omega]
  have : signed s m (p - -(i : Int)).toNat = sg s (m * 2 ^ p.toNat) * 2 ^ i := by
    unfold signed sg
    rw [Nat.shiftLeft_eq, show (p - -(i : Int)).toNat = p.toNat + i from by omega, Nat.pow_add, ← Nat.mul_assoc]
    cases s <;> simp [Int.neg_mul]
  rw [this, compare_mul]
/-- below the greatest float -/
theorem ord_max {a : Int} (ha : a.natAbs ≤ 4503599627370496) : ord (W a) 9218868437227405311 = some .lt := by
  have hr : double.read 9218868437227405311 = .number false 9007199254740991 971 := by decide +kernel
  have h := order_rev false 9007199254740991 971 (by decide) (isW_read (by omega) (W_isW a))
  rw [ord_eq, hr, h, Option.some.injEq, Int.compare_eq_lt]
  have : 1 ≤ 2 ^ (971 : Int).toNat := Nat.two_pow_pos _
  have : 9007199254740991 ≤ 9007199254740991 * 2 ^ (971 : Int).toNat := Nat.le_mul_of_pos_right _ this
  simp only [sg, Bool.false_eq_true, if_false]; omega
/-- above the least normal float -/
theorem ord_min {a : Int} (h0 : 0 < a) (ha : a.natAbs ≤ 4503599627370496) : ord (W a) 4503599627370496 = some .gt := by
  have hr : double.read 4503599627370496 = .number false 4503599627370496 (-((1074 : Nat) : Int)) := by decide +kernel
  have key : ∀ n : Nat, 52 < n → (Datum.number false 4503599627370496 (-(n : Int))).order (double.read (W a)) = some .lt := by
    intro n hn
    rw [order_num _ _ n (isW_read (by omega) (W_isW a)), Option.some.injEq, Int.compare_eq_lt]
    have h1 : 2 ^ 53 ≤ 2 ^ n := Nat.pow_le_pow_right (by omega) (by omega)
    have h2 : ((2 ^ n : Nat) : Int) = 2 ^ n := by simp
    have h3 : (1 : Int) * 2 ^ n ≤ a * 2 ^ n := Int.mul_le_mul_of_nonneg_right (by omega) (by rw [← h2]; omega)
    simp only [sg, Bool.false_eq_true, if_false]
    omega
  have h := key 1074 (by decide)
  rw [ord_eq, hr]
  obtain ⟨t, i, hd, ht⟩ := isW_read (x := W a) (n := a) (by omega) (W_isW a)
  rw [hd] at h ⊢
  simp only [Datum.order, Option.some.injEq] at h ⊢
  rw [Int.min_comm]
  rw [Int.compare_eq_lt] at h
  rw [Int.compare_eq_gt]
  exact h
end Flo
end Go.Proofs.YtbhkclkahblfnaaGreatDoor
