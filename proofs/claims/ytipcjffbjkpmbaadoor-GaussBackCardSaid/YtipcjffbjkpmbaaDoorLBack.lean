/- The walk of GaussBack: whatever the arguments, true. -/
import Derived.Test.YtipcjffbjkpmbaaDoorLQuos
import Derived.Test.YtipcjffbjkpmbaaDoorBackp
namespace Go.Proofs.YtipcjffbjkpmbaaDoor
open Go.RowKit Flo
namespace Flo
theorem back_num {a b c d : Int} : (a * c - b * d) * c + (a * d + b * c) * d = a * (c * c + d * d) ∧ (a * d + b * c) * c - (a * c - b * d) * d = b * (c * c + d * d) := by
  constructor
  · have h1 : (a * c - b * d) * c + (a * d + b * c) * d = a * c * c - b * d * c + (a * d * d + b * c * d) := by rw [Int.sub_mul, Int.add_mul]
    have h2 : b * d * c = b * c * d := by rw [Int.mul_assoc, Int.mul_comm d c, ← Int.mul_assoc]
    rw [h1, h2, Int.mul_add, ← Int.mul_assoc, ← Int.mul_assoc]; omega
  · have h1 : (a * d + b * c) * c - (a * c - b * d) * d = a * d * c + b * c * c - (a * c * d - b * d * d) := by rw [Int.sub_mul, Int.add_mul]
    have h2 : a * d * c = a * c * d := by rw [Int.mul_assoc, Int.mul_comm d c, ← Int.mul_assoc]
    rw [h1, h2, Int.mul_add, ← Int.mul_assoc, ← Int.mul_assoc]; omega
theorem quo_mul {a b c d : Int} (h0 : ¬ (c = 0 ∧ d = 0)) (h : okR a b = true) : quo (a * c - b * d) (a * d + b * c) c d = ((a, b), 0) := by
  have hp := sq_pos h0
  obtain ⟨e1, e2⟩ := back_num (a := a) (b := b) (c := c) (d := d)
  rw [quo_yes h0 (by rw [e1, e2]; exact ⟨Int.mul_tmod_left _ _, Int.mul_tmod_left _ _⟩), e1, e2, Int.mul_tdiv_cancel _ (by omega), Int.mul_tdiv_cancel _ (by omega), bnd_pos h]
theorem mul_quo {a b c d p q : Int} (h0 : ¬ (c = 0 ∧ d = 0)) (h : okR a b = true) (hp : p * (c * c + d * d) = a * c + b * d) (hq : q * (c * c + d * d) = b * c - a * d) :
    bnd (p * c - q * d) (p * d + q * c) = ((a, b), 0) := by
  have hn := sq_pos h0
  have e1 : p * c - q * d = a := by
    refine Int.eq_of_mul_eq_mul_right (show c * c + d * d ≠ 0 by omega) ?_
    have h1 : (p * c - q * d) * (c * c + d * d) = p * (c * c + d * d) * c - q * (c * c + d * d) * d := by
      rw [Int.sub_mul, Int.mul_assoc p c, Int.mul_comm c (c * c + d * d), ← Int.mul_assoc p, Int.mul_assoc q d, Int.mul_comm d (c * c + d * d), ← Int.mul_assoc q]
    rw [h1, hp, hq]
    have := (back_num (a := a) (b := b) (c := c) (d := -d)).1
    simp only [Int.mul_neg, Int.neg_mul, Int.neg_neg, Int.sub_neg] at this
    have h3 : a * -d = -(a * d) := Int.mul_neg _ _
    have h4 : (b * c - a * d) * d = (-(a * d) + b * c) * d := by rw [show b * c - a * d = -(a * d) + b * c by omega]
    rw [h4]; omega
  have e2 : p * d + q * c = b := by
    refine Int.eq_of_mul_eq_mul_right (show c * c + d * d ≠ 0 by omega) ?_
    have h1 : (p * d + q * c) * (c * c + d * d) = p * (c * c + d * d) * d + q * (c * c + d * d) * c := by
      rw [Int.add_mul, Int.mul_assoc p d, Int.mul_comm d (c * c + d * d), ← Int.mul_assoc p, Int.mul_assoc q c, Int.mul_comm c (c * c + d * d), ← Int.mul_assoc q]
    rw [h1, hp, hq]
    have := (back_num (a := a) (b := b) (c := c) (d := -d)).2
    simp only [Int.mul_neg, Int.neg_mul, Int.neg_neg, Int.sub_neg] at this
    have h4 : (b * c - a * d) * c = (-(a * d) + b * c) * c := by rw [show b * c - a * d = -(a * d) + b * c by omega]
    rw [h4]; omega
  rw [e1, e2, bnd_pos h]
/-- how a quotient ends -/
theorem quo_ends {a b c d : Int} (h0 : ¬ (c = 0 ∧ d = 0)) (h : okR a b = true) :
    quo a b c d = ((0, 0), 51) ∨ quo a b c d = ((0, 0), 50) ∨ ∃ p q, quo a b c d = ((p, q), 0) ∧ okR p q = true ∧ bnd (p * c - q * d) (p * d + q * c) = ((a, b), 0) := by
  by_cases hd : (a * c + b * d).tmod (c * c + d * d) = 0 ∧ (b * c - a * d).tmod (c * c + d * d) = 0
  · rw [quo_yes h0 hd]
    cases ho : okR ((a * c + b * d).tdiv (c * c + d * d)) ((b * c - a * d).tdiv (c * c + d * d))
    · exact Or.inr (Or.inl (bnd_neg ho))
    · exact Or.inr (Or.inr ⟨_, _, bnd_pos ho, ho, mul_quo h0 h (Int.tdiv_mul_cancel_of_tmod_eq_zero hd.1) (Int.tdiv_mul_cancel_of_tmod_eq_zero hd.2)⟩)
  · exact Or.inl (quo_no hd)
end Flo
set_option maxRecDepth 100000 in
set_option maxHeartbeats 4000000 in
theorem back_bad1 (x y : Int) (raw : Bool) (u v : Int) (raw2 : Bool) (h1 : numC (zw raw x) (zw raw y) = none) (w : World) :
    Calls Tryd.prog 10 #[.agg #[.int .i64 x, .int .i64 y, .bool raw], .agg #[.int .i64 u, .int .i64 v, .bool raw2]] w fun e w' => e = .returned (.bool true) ∧ Below w.heap.size w w' := by
  have QZ1 := Lib.hid (fun w => z_any x y raw w)
  have QZ2 := Lib.hid (fun w => z_any u v raw2 w)
  have QV1 := Lib.hid (fun w => valid_none (zw_lt raw x) (zw_lt raw y) h1 w)
  clear h1
  go_enter Tryd.func10, Tryd.ntmps10
  go_wp2_with fail
  refine (awake_any _).mono ?_; rintro e w' ⟨rfl, rfl⟩
  go_wp2_with fail
  refine (QZ1.out _).mono ?_; rintro e w1 ⟨rfl, hb1⟩
  have K1 : Keep w [(w.heap.size + 1, 0, .int .i64 u), (w.heap.size + 1, 1, .int .i64 v), (w.heap.size + 1, 2, .bool raw2), (w.heap.size, 0, .int .i64 x), (w.heap.size, 1, .int .i64 y), (w.heap.size, 2, .bool raw)] w1 := Keep.below hb1 (Keep.alloc3 (k := w.heap.size + 1) _ _ _ _ (by simp) (Keep.alloc3 (k := w.heap.size) _ _ _ _ (by simp) (Keep.start w)))
  clear hb1
  obtain ⟨⟨k0, z0, k1, z1, k2, z2, k3, z3, k4, z4, k5, z5, _⟩, hB⟩ := id K1
  clear hB
  go_wp2_with fail
  refine (QZ2.out _).mono ?_; rintro e w2 ⟨rfl, hb2⟩
  have K2 : Keep w [(w.heap.size + 1, 0, .int .i64 u), (w.heap.size + 1, 1, .int .i64 v), (w.heap.size + 1, 2, .bool raw2), (w.heap.size, 0, .int .i64 x), (w.heap.size, 1, .int .i64 y), (w.heap.size, 2, .bool raw)] w2 := Keep.below hb2 K1
  clear hb2
  clear k0 z0 k1 z1 k2 z2 k3 z3 k4 z4 k5 z5
  obtain ⟨⟨k0, z0, k1, z1, k2, z2, k3, z3, k4, z4, k5, z5, _⟩, hB⟩ := id K2
  clear hB
  go_wp2_with fail
  refine (QV1.out _).mono ?_; rintro e w' ⟨rfl, rfl⟩
  go_wp2_with fail
  go_ret
  exact ⟨rfl, And.right K2⟩
set_option maxRecDepth 100000 in
set_option maxHeartbeats 4000000 in
theorem back_bad2 (x y : Int) (raw : Bool) (u v : Int) (raw2 : Bool) (h1 : (numC (zw raw x) (zw raw y)).isSome = true) (h2 : numC (zw raw2 u) (zw raw2 v) = none) (w : World) :
    Calls Tryd.prog 10 #[.agg #[.int .i64 x, .int .i64 y, .bool raw], .agg #[.int .i64 u, .int .i64 v, .bool raw2]] w fun e w' => e = .returned (.bool true) ∧ Below w.heap.size w w' := by
  have QZ1 := Lib.hid (fun w => z_any x y raw w)
  have QZ2 := Lib.hid (fun w => z_any u v raw2 w)
  have QV1 := Lib.hid (fun w => valid_any _ _ (zw_lt raw x) (zw_lt raw y) w)
  rw [h1] at QV1
  have QV2 := Lib.hid (fun w => valid_none (zw_lt raw2 u) (zw_lt raw2 v) h2 w)
  clear h1 h2
  go_enter Tryd.func10, Tryd.ntmps10
  go_wp2_with fail
  refine (awake_any _).mono ?_; rintro e w' ⟨rfl, rfl⟩
  go_wp2_with fail
  refine (QZ1.out _).mono ?_; rintro e w1 ⟨rfl, hb1⟩
  have K1 : Keep w [(w.heap.size + 1, 0, .int .i64 u), (w.heap.size + 1, 1, .int .i64 v), (w.heap.size + 1, 2, .bool raw2), (w.heap.size, 0, .int .i64 x), (w.heap.size, 1, .int .i64 y), (w.heap.size, 2, .bool raw)] w1 := Keep.below hb1 (Keep.alloc3 (k := w.heap.size + 1) _ _ _ _ (by simp) (Keep.alloc3 (k := w.heap.size) _ _ _ _ (by simp) (Keep.start w)))
  clear hb1
  obtain ⟨⟨k0, z0, k1, z1, k2, z2, k3, z3, k4, z4, k5, z5, _⟩, hB⟩ := id K1
  clear hB
  go_wp2_with fail
  refine (QZ2.out _).mono ?_; rintro e w2 ⟨rfl, hb2⟩
  have K2 : Keep w [(w.heap.size + 1, 0, .int .i64 u), (w.heap.size + 1, 1, .int .i64 v), (w.heap.size + 1, 2, .bool raw2), (w.heap.size, 0, .int .i64 x), (w.heap.size, 1, .int .i64 y), (w.heap.size, 2, .bool raw)] w2 := Keep.below hb2 K1
  clear hb2
  clear k0 z0 k1 z1 k2 z2 k3 z3 k4 z4 k5 z5
  obtain ⟨⟨k0, z0, k1, z1, k2, z2, k3, z3, k4, z4, k5, z5, _⟩, hB⟩ := id K2
  clear hB
  go_wp2_with fail
  refine (QV1.out _).mono ?_; rintro e w' ⟨rfl, rfl⟩
  go_wp2_with fail
  refine (QV2.out _).mono ?_; rintro e w' ⟨rfl, rfl⟩
  go_wp2_with fail
  go_ret
  exact ⟨rfl, And.right K2⟩
set_option maxRecDepth 100000 in
set_option maxHeartbeats 4000000 in
theorem back_zm51 (x y : Int) (raw : Bool) (u v : Int) (raw2 : Bool) (a b c d : Int) (h1 : numC (zw raw x) (zw raw y) = some (a, b)) (h2 : numC (zw raw2 u) (zw raw2 v) = some (c, d)) (hz : c = 0 ∧ d = 0) (w : World) (hI : Inv w) :
    Calls Tryd.prog 10 #[.agg #[.int .i64 x, .int .i64 y, .bool raw], .agg #[.int .i64 u, .int .i64 v, .bool raw2]] w fun e w' => e = .returned (.bool true) ∧ Below w.heap.size w w' := by
  have QZ1 := Lib.hid (fun w => z_some h1 w); have QZ2 := Lib.hid (fun w => z_some h2 w)
  have ka := okR_of h1; have kb := okR_of h2
  have HI := Lib.hid hI
  have QV1 := Lib.hid (fun w => valid_W ka w); have QV2 := Lib.hid (fun w => valid_W kb w)
  have QT := Lib.hid (fun w hT => text_W ka w hT); have QP := Lib.hid (fun w hT => parse_text ka w hT)
  have qm := fun w => mul_bnd (W_lt' a) (W_lt' b) (W_lt' c) (W_lt' d) (numC_R ka) (numC_R kb) w
  have qq := fun w => quo_some (W_lt' a) (W_lt' b) (W_lt' c) (W_lt' d) (numC_R ka) (numC_R kb) w
  have heq : (FloatKind.f64.format.order (W c) 0 == some Ordering.eq && FloatKind.f64.format.order (W d) 0 == some Ordering.eq) = decide (c = 0 ∧ d = 0) := by
    have e1 := ord_W_eq (okR_iff.1 kb).1 (b := 0) (by decide); have e2 := ord_W_eq (okR_iff.1 kb).2 (b := 0) (by decide)
    rw [W0] at e1 e2
    rw [e1, e2]; simp
  have fe : decide (c = 0 ∧ d = 0) = true := decide_eq_true hz
  rw [fe] at heq
  rw [show a * c - b * d = 0 by rw [hz.1, hz.2]; simp, show a * d + b * c = 0 by rw [hz.1, hz.2]; simp, bnd_pos (x := 0) (y := 0) rfl] at qm
  rw [quo_zero hz] at qq
  have QM := Lib.hid qm; have QQ := Lib.hid qq
  clear qm qq h1 h2 hz hI ka kb fe
  go_enter Tryd.func10, Tryd.ntmps10
  go_wp2_with fail
  refine (awake_any _).mono ?_; rintro e w' ⟨rfl, rfl⟩
  go_wp2_with fail
  refine (QZ1.out _).mono ?_; rintro e w1 ⟨rfl, hb1⟩
  have K1 : Keep w [(w.heap.size + 1, 0, .int .i64 u), (w.heap.size + 1, 1, .int .i64 v), (w.heap.size + 1, 2, .bool raw2), (w.heap.size, 0, .int .i64 x), (w.heap.size, 1, .int .i64 y), (w.heap.size, 2, .bool raw)] w1 := Keep.below hb1 (Keep.alloc3 (k := w.heap.size + 1) _ _ _ _ (by simp) (Keep.alloc3 (k := w.heap.size) _ _ _ _ (by simp) (Keep.start w)))
  clear hb1
  obtain ⟨⟨k0, z0, k1, z1, k2, z2, k3, z3, k4, z4, k5, z5, _⟩, hB⟩ := id K1
  clear hB
  go_wp2_with fail
  refine (QZ2.out _).mono ?_; rintro e w2 ⟨rfl, hb2⟩
  have K2 : Keep w [(w.heap.size + 1, 0, .int .i64 u), (w.heap.size + 1, 1, .int .i64 v), (w.heap.size + 1, 2, .bool raw2), (w.heap.size, 0, .int .i64 x), (w.heap.size, 1, .int .i64 y), (w.heap.size, 2, .bool raw)] w2 := Keep.below hb2 K1
  clear hb2
  clear k0 z0 k1 z1 k2 z2 k3 z3 k4 z4 k5 z5
  obtain ⟨⟨k0, z0, k1, z1, k2, z2, k3, z3, k4, z4, k5, z5, _⟩, hB⟩ := id K2
  clear hB
  go_wp2_with fail
  refine (QV1.out _).mono ?_; rintro e w' ⟨rfl, rfl⟩
  go_wp2_with fail
  refine (QV2.out _).mono ?_; rintro e w' ⟨rfl, rfl⟩
  go_wp2_with fail
  refine (QT.out _ (HI.out.below (And.right K2)).pow).mono ?_; rintro e w3 ⟨rfl, hb3⟩
  have K3 : Keep w [(w.heap.size + 1, 0, .int .i64 u), (w.heap.size + 1, 1, .int .i64 v), (w.heap.size + 1, 2, .bool raw2), (w.heap.size, 0, .int .i64 x), (w.heap.size, 1, .int .i64 y), (w.heap.size, 2, .bool raw)] w3 := Keep.below hb3 K2
  clear hb3
  clear k0 z0 k1 z1 k2 z2 k3 z3 k4 z4 k5 z5
  obtain ⟨⟨k0, z0, k1, z1, k2, z2, k3, z3, k4, z4, k5, z5, _⟩, hB⟩ := id K3
  clear hB
  go_wp2_with fail
  refine (QP.out _ (HI.out.below (And.right K3))).mono ?_; rintro e w4 ⟨rfl, hb4⟩
  have K4 : Keep w [(w.heap.size + 1, 0, .int .i64 u), (w.heap.size + 1, 1, .int .i64 v), (w.heap.size + 1, 2, .bool raw2), (w.heap.size, 0, .int .i64 x), (w.heap.size, 1, .int .i64 y), (w.heap.size, 2, .bool raw)] w4 := Keep.below hb4 K3
  clear hb4
  clear k0 z0 k1 z1 k2 z2 k3 z3 k4 z4 k5 z5
  obtain ⟨⟨k0, z0, k1, z1, k2, z2, k3, z3, k4, z4, k5, z5, _⟩, hB⟩ := id K4
  clear hB
  go_wp2_with fail
  refine (bits_self _ _ _).mono ?_; rintro e w' ⟨rfl, rfl⟩
  go_wp2_with fail
  refine (QM.out _).mono ?_; rintro e w' ⟨rfl, rfl⟩
  go_wp2_with fail
  refine (QQ.out _).mono ?_; rintro e w' ⟨rfl, rfl⟩
  go_wp2_with fail
  go_ret
  exact ⟨rfl, And.right K4⟩
set_option maxRecDepth 100000 in
set_option maxHeartbeats 4000000 in
theorem back_nm51 (x y : Int) (raw : Bool) (u v : Int) (raw2 : Bool) (a b c d : Int) (h1 : numC (zw raw x) (zw raw y) = some (a, b)) (h2 : numC (zw raw2 u) (zw raw2 v) = some (c, d)) (hz : ¬ (c = 0 ∧ d = 0)) (hk : okR (a * c - b * d) (a * d + b * c) = true) (hq : quo a b c d = ((0, 0), 51)) (w : World) (hI : Inv w) :
    Calls Tryd.prog 10 #[.agg #[.int .i64 x, .int .i64 y, .bool raw], .agg #[.int .i64 u, .int .i64 v, .bool raw2]] w fun e w' => e = .returned (.bool true) ∧ Below w.heap.size w w' := by
  have QZ1 := Lib.hid (fun w => z_some h1 w); have QZ2 := Lib.hid (fun w => z_some h2 w)
  have ka := okR_of h1; have kb := okR_of h2
  have HI := Lib.hid hI
  have QV1 := Lib.hid (fun w => valid_W ka w); have QV2 := Lib.hid (fun w => valid_W kb w)
  have QT := Lib.hid (fun w hT => text_W ka w hT); have QP := Lib.hid (fun w hT => parse_text ka w hT)
  have qm := fun w => mul_bnd (W_lt' a) (W_lt' b) (W_lt' c) (W_lt' d) (numC_R ka) (numC_R kb) w
  have qq := fun w => quo_some (W_lt' a) (W_lt' b) (W_lt' c) (W_lt' d) (numC_R ka) (numC_R kb) w
  have heq : (FloatKind.f64.format.order (W c) 0 == some Ordering.eq && FloatKind.f64.format.order (W d) 0 == some Ordering.eq) = decide (c = 0 ∧ d = 0) := by
    have e1 := ord_W_eq (okR_iff.1 kb).1 (b := 0) (by decide); have e2 := ord_W_eq (okR_iff.1 kb).2 (b := 0) (by decide)
    rw [W0] at e1 e2
    rw [e1, e2]; simp
  have fe : decide (c = 0 ∧ d = 0) = false := decide_eq_false hz
  rw [fe] at heq
  rw [bnd_pos hk] at qm
  have qb := fun w => quo_some (W_lt' _) (W_lt' _) (W_lt' c) (W_lt' d) (numC_R hk) (numC_R kb) w
  rw [quo_mul hz ka] at qb
  have QB := Lib.hid qb
  clear qb
  rw [hq] at qq
  have QM := Lib.hid qm; have QQ := Lib.hid qq
  clear qm qq h1 h2 hz hI ka kb fe hk hq
  go_enter Tryd.func10, Tryd.ntmps10
  go_wp2_with fail
  refine (awake_any _).mono ?_; rintro e w' ⟨rfl, rfl⟩
  go_wp2_with fail
  refine (QZ1.out _).mono ?_; rintro e w1 ⟨rfl, hb1⟩
  have K1 : Keep w [(w.heap.size + 1, 0, .int .i64 u), (w.heap.size + 1, 1, .int .i64 v), (w.heap.size + 1, 2, .bool raw2), (w.heap.size, 0, .int .i64 x), (w.heap.size, 1, .int .i64 y), (w.heap.size, 2, .bool raw)] w1 := Keep.below hb1 (Keep.alloc3 (k := w.heap.size + 1) _ _ _ _ (by simp) (Keep.alloc3 (k := w.heap.size) _ _ _ _ (by simp) (Keep.start w)))
  clear hb1
  obtain ⟨⟨k0, z0, k1, z1, k2, z2, k3, z3, k4, z4, k5, z5, _⟩, hB⟩ := id K1
  clear hB
  go_wp2_with fail
  refine (QZ2.out _).mono ?_; rintro e w2 ⟨rfl, hb2⟩
  have K2 : Keep w [(w.heap.size + 1, 0, .int .i64 u), (w.heap.size + 1, 1, .int .i64 v), (w.heap.size + 1, 2, .bool raw2), (w.heap.size, 0, .int .i64 x), (w.heap.size, 1, .int .i64 y), (w.heap.size, 2, .bool raw)] w2 := Keep.below hb2 K1
  clear hb2
  clear k0 z0 k1 z1 k2 z2 k3 z3 k4 z4 k5 z5
  obtain ⟨⟨k0, z0, k1, z1, k2, z2, k3, z3, k4, z4, k5, z5, _⟩, hB⟩ := id K2
  clear hB
  go_wp2_with fail
  refine (QV1.out _).mono ?_; rintro e w' ⟨rfl, rfl⟩
  go_wp2_with fail
  refine (QV2.out _).mono ?_; rintro e w' ⟨rfl, rfl⟩
  go_wp2_with fail
  refine (QT.out _ (HI.out.below (And.right K2)).pow).mono ?_; rintro e w3 ⟨rfl, hb3⟩
  have K3 : Keep w [(w.heap.size + 1, 0, .int .i64 u), (w.heap.size + 1, 1, .int .i64 v), (w.heap.size + 1, 2, .bool raw2), (w.heap.size, 0, .int .i64 x), (w.heap.size, 1, .int .i64 y), (w.heap.size, 2, .bool raw)] w3 := Keep.below hb3 K2
  clear hb3
  clear k0 z0 k1 z1 k2 z2 k3 z3 k4 z4 k5 z5
  obtain ⟨⟨k0, z0, k1, z1, k2, z2, k3, z3, k4, z4, k5, z5, _⟩, hB⟩ := id K3
  clear hB
  go_wp2_with fail
  refine (QP.out _ (HI.out.below (And.right K3))).mono ?_; rintro e w4 ⟨rfl, hb4⟩
  have K4 : Keep w [(w.heap.size + 1, 0, .int .i64 u), (w.heap.size + 1, 1, .int .i64 v), (w.heap.size + 1, 2, .bool raw2), (w.heap.size, 0, .int .i64 x), (w.heap.size, 1, .int .i64 y), (w.heap.size, 2, .bool raw)] w4 := Keep.below hb4 K3
  clear hb4
  clear k0 z0 k1 z1 k2 z2 k3 z3 k4 z4 k5 z5
  obtain ⟨⟨k0, z0, k1, z1, k2, z2, k3, z3, k4, z4, k5, z5, _⟩, hB⟩ := id K4
  clear hB
  go_wp2_with fail
  refine (bits_self _ _ _).mono ?_; rintro e w' ⟨rfl, rfl⟩
  go_wp2_with fail
  refine (QM.out _).mono ?_; rintro e w' ⟨rfl, rfl⟩
  go_wp2_with fail
  refine (QB.out _).mono ?_; rintro e w' ⟨rfl, rfl⟩
  go_wp2_with fail
  refine (bits_self _ _ _).mono ?_; rintro e w' ⟨rfl, rfl⟩
  go_wp2_with fail
  refine (QQ.out _).mono ?_; rintro e w' ⟨rfl, rfl⟩
  go_wp2_with fail
  go_ret
  exact ⟨rfl, And.right K4⟩
set_option maxRecDepth 100000 in
set_option maxHeartbeats 4000000 in
theorem back_nm50 (x y : Int) (raw : Bool) (u v : Int) (raw2 : Bool) (a b c d : Int) (h1 : numC (zw raw x) (zw raw y) = some (a, b)) (h2 : numC (zw raw2 u) (zw raw2 v) = some (c, d)) (hz : ¬ (c = 0 ∧ d = 0)) (hk : okR (a * c - b * d) (a * d + b * c) = true) (hq : quo a b c d = ((0, 0), 50)) (w : World) (hI : Inv w) :
    Calls Tryd.prog 10 #[.agg #[.int .i64 x, .int .i64 y, .bool raw], .agg #[.int .i64 u, .int .i64 v, .bool raw2]] w fun e w' => e = .returned (.bool true) ∧ Below w.heap.size w w' := by
  have QZ1 := Lib.hid (fun w => z_some h1 w); have QZ2 := Lib.hid (fun w => z_some h2 w)
  have ka := okR_of h1; have kb := okR_of h2
  have HI := Lib.hid hI
  have QV1 := Lib.hid (fun w => valid_W ka w); have QV2 := Lib.hid (fun w => valid_W kb w)
  have QT := Lib.hid (fun w hT => text_W ka w hT); have QP := Lib.hid (fun w hT => parse_text ka w hT)
  have qm := fun w => mul_bnd (W_lt' a) (W_lt' b) (W_lt' c) (W_lt' d) (numC_R ka) (numC_R kb) w
  have qq := fun w => quo_some (W_lt' a) (W_lt' b) (W_lt' c) (W_lt' d) (numC_R ka) (numC_R kb) w
  have heq : (FloatKind.f64.format.order (W c) 0 == some Ordering.eq && FloatKind.f64.format.order (W d) 0 == some Ordering.eq) = decide (c = 0 ∧ d = 0) := by
    have e1 := ord_W_eq (okR_iff.1 kb).1 (b := 0) (by decide); have e2 := ord_W_eq (okR_iff.1 kb).2 (b := 0) (by decide)
    rw [W0] at e1 e2
    rw [e1, e2]; simp
  have fe : decide (c = 0 ∧ d = 0) = false := decide_eq_false hz
  rw [fe] at heq
  rw [bnd_pos hk] at qm
  have qb := fun w => quo_some (W_lt' _) (W_lt' _) (W_lt' c) (W_lt' d) (numC_R hk) (numC_R kb) w
  rw [quo_mul hz ka] at qb
  have QB := Lib.hid qb
  clear qb
  rw [hq] at qq
  have QM := Lib.hid qm; have QQ := Lib.hid qq
  clear qm qq h1 h2 hz hI ka kb fe hk hq
  go_enter Tryd.func10, Tryd.ntmps10
  go_wp2_with fail
  refine (awake_any _).mono ?_; rintro e w' ⟨rfl, rfl⟩
  go_wp2_with fail
  refine (QZ1.out _).mono ?_; rintro e w1 ⟨rfl, hb1⟩
  have K1 : Keep w [(w.heap.size + 1, 0, .int .i64 u), (w.heap.size + 1, 1, .int .i64 v), (w.heap.size + 1, 2, .bool raw2), (w.heap.size, 0, .int .i64 x), (w.heap.size, 1, .int .i64 y), (w.heap.size, 2, .bool raw)] w1 := Keep.below hb1 (Keep.alloc3 (k := w.heap.size + 1) _ _ _ _ (by simp) (Keep.alloc3 (k := w.heap.size) _ _ _ _ (by simp) (Keep.start w)))
  clear hb1
  obtain ⟨⟨k0, z0, k1, z1, k2, z2, k3, z3, k4, z4, k5, z5, _⟩, hB⟩ := id K1
  clear hB
  go_wp2_with fail
  refine (QZ2.out _).mono ?_; rintro e w2 ⟨rfl, hb2⟩
  have K2 : Keep w [(w.heap.size + 1, 0, .int .i64 u), (w.heap.size + 1, 1, .int .i64 v), (w.heap.size + 1, 2, .bool raw2), (w.heap.size, 0, .int .i64 x), (w.heap.size, 1, .int .i64 y), (w.heap.size, 2, .bool raw)] w2 := Keep.below hb2 K1
  clear hb2
  clear k0 z0 k1 z1 k2 z2 k3 z3 k4 z4 k5 z5
  obtain ⟨⟨k0, z0, k1, z1, k2, z2, k3, z3, k4, z4, k5, z5, _⟩, hB⟩ := id K2
  clear hB
  go_wp2_with fail
  refine (QV1.out _).mono ?_; rintro e w' ⟨rfl, rfl⟩
  go_wp2_with fail
  refine (QV2.out _).mono ?_; rintro e w' ⟨rfl, rfl⟩
  go_wp2_with fail
  refine (QT.out _ (HI.out.below (And.right K2)).pow).mono ?_; rintro e w3 ⟨rfl, hb3⟩
  have K3 : Keep w [(w.heap.size + 1, 0, .int .i64 u), (w.heap.size + 1, 1, .int .i64 v), (w.heap.size + 1, 2, .bool raw2), (w.heap.size, 0, .int .i64 x), (w.heap.size, 1, .int .i64 y), (w.heap.size, 2, .bool raw)] w3 := Keep.below hb3 K2
  clear hb3
  clear k0 z0 k1 z1 k2 z2 k3 z3 k4 z4 k5 z5
  obtain ⟨⟨k0, z0, k1, z1, k2, z2, k3, z3, k4, z4, k5, z5, _⟩, hB⟩ := id K3
  clear hB
  go_wp2_with fail
  refine (QP.out _ (HI.out.below (And.right K3))).mono ?_; rintro e w4 ⟨rfl, hb4⟩
  have K4 : Keep w [(w.heap.size + 1, 0, .int .i64 u), (w.heap.size + 1, 1, .int .i64 v), (w.heap.size + 1, 2, .bool raw2), (w.heap.size, 0, .int .i64 x), (w.heap.size, 1, .int .i64 y), (w.heap.size, 2, .bool raw)] w4 := Keep.below hb4 K3
  clear hb4
  clear k0 z0 k1 z1 k2 z2 k3 z3 k4 z4 k5 z5
  obtain ⟨⟨k0, z0, k1, z1, k2, z2, k3, z3, k4, z4, k5, z5, _⟩, hB⟩ := id K4
  clear hB
  go_wp2_with fail
  refine (bits_self _ _ _).mono ?_; rintro e w' ⟨rfl, rfl⟩
  go_wp2_with fail
  refine (QM.out _).mono ?_; rintro e w' ⟨rfl, rfl⟩
  go_wp2_with fail
  refine (QB.out _).mono ?_; rintro e w' ⟨rfl, rfl⟩
  go_wp2_with fail
  refine (bits_self _ _ _).mono ?_; rintro e w' ⟨rfl, rfl⟩
  go_wp2_with fail
  refine (QQ.out _).mono ?_; rintro e w' ⟨rfl, rfl⟩
  go_wp2_with fail
  go_ret
  exact ⟨rfl, And.right K4⟩
set_option maxRecDepth 100000 in
set_option maxHeartbeats 4000000 in
theorem back_nm0 (x y : Int) (raw : Bool) (u v : Int) (raw2 : Bool) (a b c d : Int) (h1 : numC (zw raw x) (zw raw y) = some (a, b)) (h2 : numC (zw raw2 u) (zw raw2 v) = some (c, d)) (hz : ¬ (c = 0 ∧ d = 0)) (hk : okR (a * c - b * d) (a * d + b * c) = true) (p q : Int) (hq : quo a b c d = ((p, q), 0)) (hpq : okR p q = true) (hb : bnd (p * c - q * d) (p * d + q * c) = ((a, b), 0)) (w : World) (hI : Inv w) :
    Calls Tryd.prog 10 #[.agg #[.int .i64 x, .int .i64 y, .bool raw], .agg #[.int .i64 u, .int .i64 v, .bool raw2]] w fun e w' => e = .returned (.bool true) ∧ Below w.heap.size w w' := by
  have QZ1 := Lib.hid (fun w => z_some h1 w); have QZ2 := Lib.hid (fun w => z_some h2 w)
  have ka := okR_of h1; have kb := okR_of h2
  have HI := Lib.hid hI
  have QV1 := Lib.hid (fun w => valid_W ka w); have QV2 := Lib.hid (fun w => valid_W kb w)
  have QT := Lib.hid (fun w hT => text_W ka w hT); have QP := Lib.hid (fun w hT => parse_text ka w hT)
  have qm := fun w => mul_bnd (W_lt' a) (W_lt' b) (W_lt' c) (W_lt' d) (numC_R ka) (numC_R kb) w
  have qq := fun w => quo_some (W_lt' a) (W_lt' b) (W_lt' c) (W_lt' d) (numC_R ka) (numC_R kb) w
  have heq : (FloatKind.f64.format.order (W c) 0 == some Ordering.eq && FloatKind.f64.format.order (W d) 0 == some Ordering.eq) = decide (c = 0 ∧ d = 0) := by
    have e1 := ord_W_eq (okR_iff.1 kb).1 (b := 0) (by decide); have e2 := ord_W_eq (okR_iff.1 kb).2 (b := 0) (by decide)
    rw [W0] at e1 e2
    rw [e1, e2]; simp
  have fe : decide (c = 0 ∧ d = 0) = false := decide_eq_false hz
  rw [fe] at heq
  rw [bnd_pos hk] at qm
  have qb := fun w => quo_some (W_lt' _) (W_lt' _) (W_lt' c) (W_lt' d) (numC_R hk) (numC_R kb) w
  rw [quo_mul hz ka] at qb
  have QB := Lib.hid qb
  clear qb
  rw [hq] at qq
  have qn := fun w => mul_bnd (W_lt' p) (W_lt' q) (W_lt' c) (W_lt' d) (numC_R hpq) (numC_R kb) w
  rw [hb] at qn
  have QN := Lib.hid qn
  clear qn
  have QM := Lib.hid qm; have QQ := Lib.hid qq
  clear qm qq h1 h2 hz hI ka kb fe hk hq hpq hb
  go_enter Tryd.func10, Tryd.ntmps10
  go_wp2_with fail
  refine (awake_any _).mono ?_; rintro e w' ⟨rfl, rfl⟩
  go_wp2_with fail
  refine (QZ1.out _).mono ?_; rintro e w1 ⟨rfl, hb1⟩
  have K1 : Keep w [(w.heap.size + 1, 0, .int .i64 u), (w.heap.size + 1, 1, .int .i64 v), (w.heap.size + 1, 2, .bool raw2), (w.heap.size, 0, .int .i64 x), (w.heap.size, 1, .int .i64 y), (w.heap.size, 2, .bool raw)] w1 := Keep.below hb1 (Keep.alloc3 (k := w.heap.size + 1) _ _ _ _ (by simp) (Keep.alloc3 (k := w.heap.size) _ _ _ _ (by simp) (Keep.start w)))
  clear hb1
  obtain ⟨⟨k0, z0, k1, z1, k2, z2, k3, z3, k4, z4, k5, z5, _⟩, hB⟩ := id K1
  clear hB
  go_wp2_with fail
  refine (QZ2.out _).mono ?_; rintro e w2 ⟨rfl, hb2⟩
  have K2 : Keep w [(w.heap.size + 1, 0, .int .i64 u), (w.heap.size + 1, 1, .int .i64 v), (w.heap.size + 1, 2, .bool raw2), (w.heap.size, 0, .int .i64 x), (w.heap.size, 1, .int .i64 y), (w.heap.size, 2, .bool raw)] w2 := Keep.below hb2 K1
  clear hb2
  clear k0 z0 k1 z1 k2 z2 k3 z3 k4 z4 k5 z5
  obtain ⟨⟨k0, z0, k1, z1, k2, z2, k3, z3, k4, z4, k5, z5, _⟩, hB⟩ := id K2
  clear hB
  go_wp2_with fail
  refine (QV1.out _).mono ?_; rintro e w' ⟨rfl, rfl⟩
  go_wp2_with fail
  refine (QV2.out _).mono ?_; rintro e w' ⟨rfl, rfl⟩
  go_wp2_with fail
  refine (QT.out _ (HI.out.below (And.right K2)).pow).mono ?_; rintro e w3 ⟨rfl, hb3⟩
  have K3 : Keep w [(w.heap.size + 1, 0, .int .i64 u), (w.heap.size + 1, 1, .int .i64 v), (w.heap.size + 1, 2, .bool raw2), (w.heap.size, 0, .int .i64 x), (w.heap.size, 1, .int .i64 y), (w.heap.size, 2, .bool raw)] w3 := Keep.below hb3 K2
  clear hb3
  clear k0 z0 k1 z1 k2 z2 k3 z3 k4 z4 k5 z5
  obtain ⟨⟨k0, z0, k1, z1, k2, z2, k3, z3, k4, z4, k5, z5, _⟩, hB⟩ := id K3
  clear hB
  go_wp2_with fail
  refine (QP.out _ (HI.out.below (And.right K3))).mono ?_; rintro e w4 ⟨rfl, hb4⟩
  have K4 : Keep w [(w.heap.size + 1, 0, .int .i64 u), (w.heap.size + 1, 1, .int .i64 v), (w.heap.size + 1, 2, .bool raw2), (w.heap.size, 0, .int .i64 x), (w.heap.size, 1, .int .i64 y), (w.heap.size, 2, .bool raw)] w4 := Keep.below hb4 K3
  clear hb4
  clear k0 z0 k1 z1 k2 z2 k3 z3 k4 z4 k5 z5
  obtain ⟨⟨k0, z0, k1, z1, k2, z2, k3, z3, k4, z4, k5, z5, _⟩, hB⟩ := id K4
  clear hB
  go_wp2_with fail
  refine (bits_self _ _ _).mono ?_; rintro e w' ⟨rfl, rfl⟩
  go_wp2_with fail
  refine (QM.out _).mono ?_; rintro e w' ⟨rfl, rfl⟩
  go_wp2_with fail
  refine (QB.out _).mono ?_; rintro e w' ⟨rfl, rfl⟩
  go_wp2_with fail
  refine (bits_self _ _ _).mono ?_; rintro e w' ⟨rfl, rfl⟩
  go_wp2_with fail
  refine (QQ.out _).mono ?_; rintro e w' ⟨rfl, rfl⟩
  go_wp2_with fail
  refine (QN.out _).mono ?_; rintro e w' ⟨rfl, rfl⟩
  go_wp2_with fail
  refine (bits_self _ _ _).mono ?_; rintro e w' ⟨rfl, rfl⟩
  go_wp2_with fail
  go_ret
  exact ⟨rfl, And.right K4⟩
set_option maxRecDepth 100000 in
set_option maxHeartbeats 4000000 in
theorem back_no51 (x y : Int) (raw : Bool) (u v : Int) (raw2 : Bool) (a b c d : Int) (h1 : numC (zw raw x) (zw raw y) = some (a, b)) (h2 : numC (zw raw2 u) (zw raw2 v) = some (c, d)) (hz : ¬ (c = 0 ∧ d = 0)) (hk : okR (a * c - b * d) (a * d + b * c) = false) (hq : quo a b c d = ((0, 0), 51)) (w : World) (hI : Inv w) :
    Calls Tryd.prog 10 #[.agg #[.int .i64 x, .int .i64 y, .bool raw], .agg #[.int .i64 u, .int .i64 v, .bool raw2]] w fun e w' => e = .returned (.bool true) ∧ Below w.heap.size w w' := by
  have QZ1 := Lib.hid (fun w => z_some h1 w); have QZ2 := Lib.hid (fun w => z_some h2 w)
  have ka := okR_of h1; have kb := okR_of h2
  have HI := Lib.hid hI
  have QV1 := Lib.hid (fun w => valid_W ka w); have QV2 := Lib.hid (fun w => valid_W kb w)
  have QT := Lib.hid (fun w hT => text_W ka w hT); have QP := Lib.hid (fun w hT => parse_text ka w hT)
  have qm := fun w => mul_bnd (W_lt' a) (W_lt' b) (W_lt' c) (W_lt' d) (numC_R ka) (numC_R kb) w
  have qq := fun w => quo_some (W_lt' a) (W_lt' b) (W_lt' c) (W_lt' d) (numC_R ka) (numC_R kb) w
  have heq : (FloatKind.f64.format.order (W c) 0 == some Ordering.eq && FloatKind.f64.format.order (W d) 0 == some Ordering.eq) = decide (c = 0 ∧ d = 0) := by
    have e1 := ord_W_eq (okR_iff.1 kb).1 (b := 0) (by decide); have e2 := ord_W_eq (okR_iff.1 kb).2 (b := 0) (by decide)
    rw [W0] at e1 e2
    rw [e1, e2]; simp
  have fe : decide (c = 0 ∧ d = 0) = false := decide_eq_false hz
  rw [fe] at heq
  rw [bnd_neg hk] at qm
  rw [hq] at qq
  have QM := Lib.hid qm; have QQ := Lib.hid qq
  clear qm qq h1 h2 hz hI ka kb fe hk hq
  go_enter Tryd.func10, Tryd.ntmps10
  go_wp2_with fail
  refine (awake_any _).mono ?_; rintro e w' ⟨rfl, rfl⟩
  go_wp2_with fail
  refine (QZ1.out _).mono ?_; rintro e w1 ⟨rfl, hb1⟩
  have K1 : Keep w [(w.heap.size + 1, 0, .int .i64 u), (w.heap.size + 1, 1, .int .i64 v), (w.heap.size + 1, 2, .bool raw2), (w.heap.size, 0, .int .i64 x), (w.heap.size, 1, .int .i64 y), (w.heap.size, 2, .bool raw)] w1 := Keep.below hb1 (Keep.alloc3 (k := w.heap.size + 1) _ _ _ _ (by simp) (Keep.alloc3 (k := w.heap.size) _ _ _ _ (by simp) (Keep.start w)))
  clear hb1
  obtain ⟨⟨k0, z0, k1, z1, k2, z2, k3, z3, k4, z4, k5, z5, _⟩, hB⟩ := id K1
  clear hB
  go_wp2_with fail
  refine (QZ2.out _).mono ?_; rintro e w2 ⟨rfl, hb2⟩
  have K2 : Keep w [(w.heap.size + 1, 0, .int .i64 u), (w.heap.size + 1, 1, .int .i64 v), (w.heap.size + 1, 2, .bool raw2), (w.heap.size, 0, .int .i64 x), (w.heap.size, 1, .int .i64 y), (w.heap.size, 2, .bool raw)] w2 := Keep.below hb2 K1
  clear hb2
  clear k0 z0 k1 z1 k2 z2 k3 z3 k4 z4 k5 z5
  obtain ⟨⟨k0, z0, k1, z1, k2, z2, k3, z3, k4, z4, k5, z5, _⟩, hB⟩ := id K2
  clear hB
  go_wp2_with fail
  refine (QV1.out _).mono ?_; rintro e w' ⟨rfl, rfl⟩
  go_wp2_with fail
  refine (QV2.out _).mono ?_; rintro e w' ⟨rfl, rfl⟩
  go_wp2_with fail
  refine (QT.out _ (HI.out.below (And.right K2)).pow).mono ?_; rintro e w3 ⟨rfl, hb3⟩
  have K3 : Keep w [(w.heap.size + 1, 0, .int .i64 u), (w.heap.size + 1, 1, .int .i64 v), (w.heap.size + 1, 2, .bool raw2), (w.heap.size, 0, .int .i64 x), (w.heap.size, 1, .int .i64 y), (w.heap.size, 2, .bool raw)] w3 := Keep.below hb3 K2
  clear hb3
  clear k0 z0 k1 z1 k2 z2 k3 z3 k4 z4 k5 z5
  obtain ⟨⟨k0, z0, k1, z1, k2, z2, k3, z3, k4, z4, k5, z5, _⟩, hB⟩ := id K3
  clear hB
  go_wp2_with fail
  refine (QP.out _ (HI.out.below (And.right K3))).mono ?_; rintro e w4 ⟨rfl, hb4⟩
  have K4 : Keep w [(w.heap.size + 1, 0, .int .i64 u), (w.heap.size + 1, 1, .int .i64 v), (w.heap.size + 1, 2, .bool raw2), (w.heap.size, 0, .int .i64 x), (w.heap.size, 1, .int .i64 y), (w.heap.size, 2, .bool raw)] w4 := Keep.below hb4 K3
  clear hb4
  clear k0 z0 k1 z1 k2 z2 k3 z3 k4 z4 k5 z5
  obtain ⟨⟨k0, z0, k1, z1, k2, z2, k3, z3, k4, z4, k5, z5, _⟩, hB⟩ := id K4
  clear hB
  go_wp2_with fail
  refine (bits_self _ _ _).mono ?_; rintro e w' ⟨rfl, rfl⟩
  go_wp2_with fail
  refine (QM.out _).mono ?_; rintro e w' ⟨rfl, rfl⟩
  go_wp2_with fail
  refine (QQ.out _).mono ?_; rintro e w' ⟨rfl, rfl⟩
  go_wp2_with fail
  go_ret
  exact ⟨rfl, And.right K4⟩
set_option maxRecDepth 100000 in
set_option maxHeartbeats 4000000 in
theorem back_no50 (x y : Int) (raw : Bool) (u v : Int) (raw2 : Bool) (a b c d : Int) (h1 : numC (zw raw x) (zw raw y) = some (a, b)) (h2 : numC (zw raw2 u) (zw raw2 v) = some (c, d)) (hz : ¬ (c = 0 ∧ d = 0)) (hk : okR (a * c - b * d) (a * d + b * c) = false) (hq : quo a b c d = ((0, 0), 50)) (w : World) (hI : Inv w) :
    Calls Tryd.prog 10 #[.agg #[.int .i64 x, .int .i64 y, .bool raw], .agg #[.int .i64 u, .int .i64 v, .bool raw2]] w fun e w' => e = .returned (.bool true) ∧ Below w.heap.size w w' := by
  have QZ1 := Lib.hid (fun w => z_some h1 w); have QZ2 := Lib.hid (fun w => z_some h2 w)
  have ka := okR_of h1; have kb := okR_of h2
  have HI := Lib.hid hI
  have QV1 := Lib.hid (fun w => valid_W ka w); have QV2 := Lib.hid (fun w => valid_W kb w)
  have QT := Lib.hid (fun w hT => text_W ka w hT); have QP := Lib.hid (fun w hT => parse_text ka w hT)
  have qm := fun w => mul_bnd (W_lt' a) (W_lt' b) (W_lt' c) (W_lt' d) (numC_R ka) (numC_R kb) w
  have qq := fun w => quo_some (W_lt' a) (W_lt' b) (W_lt' c) (W_lt' d) (numC_R ka) (numC_R kb) w
  have heq : (FloatKind.f64.format.order (W c) 0 == some Ordering.eq && FloatKind.f64.format.order (W d) 0 == some Ordering.eq) = decide (c = 0 ∧ d = 0) := by
    have e1 := ord_W_eq (okR_iff.1 kb).1 (b := 0) (by decide); have e2 := ord_W_eq (okR_iff.1 kb).2 (b := 0) (by decide)
    rw [W0] at e1 e2
    rw [e1, e2]; simp
  have fe : decide (c = 0 ∧ d = 0) = false := decide_eq_false hz
  rw [fe] at heq
  rw [bnd_neg hk] at qm
  rw [hq] at qq
  have QM := Lib.hid qm; have QQ := Lib.hid qq
  clear qm qq h1 h2 hz hI ka kb fe hk hq
  go_enter Tryd.func10, Tryd.ntmps10
  go_wp2_with fail
  refine (awake_any _).mono ?_; rintro e w' ⟨rfl, rfl⟩
  go_wp2_with fail
  refine (QZ1.out _).mono ?_; rintro e w1 ⟨rfl, hb1⟩
  have K1 : Keep w [(w.heap.size + 1, 0, .int .i64 u), (w.heap.size + 1, 1, .int .i64 v), (w.heap.size + 1, 2, .bool raw2), (w.heap.size, 0, .int .i64 x), (w.heap.size, 1, .int .i64 y), (w.heap.size, 2, .bool raw)] w1 := Keep.below hb1 (Keep.alloc3 (k := w.heap.size + 1) _ _ _ _ (by simp) (Keep.alloc3 (k := w.heap.size) _ _ _ _ (by simp) (Keep.start w)))
  clear hb1
  obtain ⟨⟨k0, z0, k1, z1, k2, z2, k3, z3, k4, z4, k5, z5, _⟩, hB⟩ := id K1
  clear hB
  go_wp2_with fail
  refine (QZ2.out _).mono ?_; rintro e w2 ⟨rfl, hb2⟩
  have K2 : Keep w [(w.heap.size + 1, 0, .int .i64 u), (w.heap.size + 1, 1, .int .i64 v), (w.heap.size + 1, 2, .bool raw2), (w.heap.size, 0, .int .i64 x), (w.heap.size, 1, .int .i64 y), (w.heap.size, 2, .bool raw)] w2 := Keep.below hb2 K1
  clear hb2
  clear k0 z0 k1 z1 k2 z2 k3 z3 k4 z4 k5 z5
  obtain ⟨⟨k0, z0, k1, z1, k2, z2, k3, z3, k4, z4, k5, z5, _⟩, hB⟩ := id K2
  clear hB
  go_wp2_with fail
  refine (QV1.out _).mono ?_; rintro e w' ⟨rfl, rfl⟩
  go_wp2_with fail
  refine (QV2.out _).mono ?_; rintro e w' ⟨rfl, rfl⟩
  go_wp2_with fail
  refine (QT.out _ (HI.out.below (And.right K2)).pow).mono ?_; rintro e w3 ⟨rfl, hb3⟩
  have K3 : Keep w [(w.heap.size + 1, 0, .int .i64 u), (w.heap.size + 1, 1, .int .i64 v), (w.heap.size + 1, 2, .bool raw2), (w.heap.size, 0, .int .i64 x), (w.heap.size, 1, .int .i64 y), (w.heap.size, 2, .bool raw)] w3 := Keep.below hb3 K2
  clear hb3
  clear k0 z0 k1 z1 k2 z2 k3 z3 k4 z4 k5 z5
  obtain ⟨⟨k0, z0, k1, z1, k2, z2, k3, z3, k4, z4, k5, z5, _⟩, hB⟩ := id K3
  clear hB
  go_wp2_with fail
  refine (QP.out _ (HI.out.below (And.right K3))).mono ?_; rintro e w4 ⟨rfl, hb4⟩
  have K4 : Keep w [(w.heap.size + 1, 0, .int .i64 u), (w.heap.size + 1, 1, .int .i64 v), (w.heap.size + 1, 2, .bool raw2), (w.heap.size, 0, .int .i64 x), (w.heap.size, 1, .int .i64 y), (w.heap.size, 2, .bool raw)] w4 := Keep.below hb4 K3
  clear hb4
  clear k0 z0 k1 z1 k2 z2 k3 z3 k4 z4 k5 z5
  obtain ⟨⟨k0, z0, k1, z1, k2, z2, k3, z3, k4, z4, k5, z5, _⟩, hB⟩ := id K4
  clear hB
  go_wp2_with fail
  refine (bits_self _ _ _).mono ?_; rintro e w' ⟨rfl, rfl⟩
  go_wp2_with fail
  refine (QM.out _).mono ?_; rintro e w' ⟨rfl, rfl⟩
  go_wp2_with fail
  refine (QQ.out _).mono ?_; rintro e w' ⟨rfl, rfl⟩
  go_wp2_with fail
  go_ret
  exact ⟨rfl, And.right K4⟩
set_option maxRecDepth 100000 in
set_option maxHeartbeats 4000000 in
theorem back_no0 (x y : Int) (raw : Bool) (u v : Int) (raw2 : Bool) (a b c d : Int) (h1 : numC (zw raw x) (zw raw y) = some (a, b)) (h2 : numC (zw raw2 u) (zw raw2 v) = some (c, d)) (hz : ¬ (c = 0 ∧ d = 0)) (hk : okR (a * c - b * d) (a * d + b * c) = false) (p q : Int) (hq : quo a b c d = ((p, q), 0)) (hpq : okR p q = true) (hb : bnd (p * c - q * d) (p * d + q * c) = ((a, b), 0)) (w : World) (hI : Inv w) :
    Calls Tryd.prog 10 #[.agg #[.int .i64 x, .int .i64 y, .bool raw], .agg #[.int .i64 u, .int .i64 v, .bool raw2]] w fun e w' => e = .returned (.bool true) ∧ Below w.heap.size w w' := by
  have QZ1 := Lib.hid (fun w => z_some h1 w); have QZ2 := Lib.hid (fun w => z_some h2 w)
  have ka := okR_of h1; have kb := okR_of h2
  have HI := Lib.hid hI
  have QV1 := Lib.hid (fun w => valid_W ka w); have QV2 := Lib.hid (fun w => valid_W kb w)
  have QT := Lib.hid (fun w hT => text_W ka w hT); have QP := Lib.hid (fun w hT => parse_text ka w hT)
  have qm := fun w => mul_bnd (W_lt' a) (W_lt' b) (W_lt' c) (W_lt' d) (numC_R ka) (numC_R kb) w
  have qq := fun w => quo_some (W_lt' a) (W_lt' b) (W_lt' c) (W_lt' d) (numC_R ka) (numC_R kb) w
  have heq : (FloatKind.f64.format.order (W c) 0 == some Ordering.eq && FloatKind.f64.format.order (W d) 0 == some Ordering.eq) = decide (c = 0 ∧ d = 0) := by
    have e1 := ord_W_eq (okR_iff.1 kb).1 (b := 0) (by decide); have e2 := ord_W_eq (okR_iff.1 kb).2 (b := 0) (by decide)
    rw [W0] at e1 e2
    rw [e1, e2]; simp
  have fe : decide (c = 0 ∧ d = 0) = false := decide_eq_false hz
  rw [fe] at heq
  rw [bnd_neg hk] at qm
  rw [hq] at qq
  have qn := fun w => mul_bnd (W_lt' p) (W_lt' q) (W_lt' c) (W_lt' d) (numC_R hpq) (numC_R kb) w
  rw [hb] at qn
  have QN := Lib.hid qn
  clear qn
  have QM := Lib.hid qm; have QQ := Lib.hid qq
  clear qm qq h1 h2 hz hI ka kb fe hk hq hpq hb
  go_enter Tryd.func10, Tryd.ntmps10
  go_wp2_with fail
  refine (awake_any _).mono ?_; rintro e w' ⟨rfl, rfl⟩
  go_wp2_with fail
  refine (QZ1.out _).mono ?_; rintro e w1 ⟨rfl, hb1⟩
  have K1 : Keep w [(w.heap.size + 1, 0, .int .i64 u), (w.heap.size + 1, 1, .int .i64 v), (w.heap.size + 1, 2, .bool raw2), (w.heap.size, 0, .int .i64 x), (w.heap.size, 1, .int .i64 y), (w.heap.size, 2, .bool raw)] w1 := Keep.below hb1 (Keep.alloc3 (k := w.heap.size + 1) _ _ _ _ (by simp) (Keep.alloc3 (k := w.heap.size) _ _ _ _ (by simp) (Keep.start w)))
  clear hb1
  obtain ⟨⟨k0, z0, k1, z1, k2, z2, k3, z3, k4, z4, k5, z5, _⟩, hB⟩ := id K1
  clear hB
  go_wp2_with fail
  refine (QZ2.out _).mono ?_; rintro e w2 ⟨rfl, hb2⟩
  have K2 : Keep w [(w.heap.size + 1, 0, .int .i64 u), (w.heap.size + 1, 1, .int .i64 v), (w.heap.size + 1, 2, .bool raw2), (w.heap.size, 0, .int .i64 x), (w.heap.size, 1, .int .i64 y), (w.heap.size, 2, .bool raw)] w2 := Keep.below hb2 K1
  clear hb2
  clear k0 z0 k1 z1 k2 z2 k3 z3 k4 z4 k5 z5
  obtain ⟨⟨k0, z0, k1, z1, k2, z2, k3, z3, k4, z4, k5, z5, _⟩, hB⟩ := id K2
  clear hB
  go_wp2_with fail
  refine (QV1.out _).mono ?_; rintro e w' ⟨rfl, rfl⟩
  go_wp2_with fail
  refine (QV2.out _).mono ?_; rintro e w' ⟨rfl, rfl⟩
  go_wp2_with fail
  refine (QT.out _ (HI.out.below (And.right K2)).pow).mono ?_; rintro e w3 ⟨rfl, hb3⟩
  have K3 : Keep w [(w.heap.size + 1, 0, .int .i64 u), (w.heap.size + 1, 1, .int .i64 v), (w.heap.size + 1, 2, .bool raw2), (w.heap.size, 0, .int .i64 x), (w.heap.size, 1, .int .i64 y), (w.heap.size, 2, .bool raw)] w3 := Keep.below hb3 K2
  clear hb3
  clear k0 z0 k1 z1 k2 z2 k3 z3 k4 z4 k5 z5
  obtain ⟨⟨k0, z0, k1, z1, k2, z2, k3, z3, k4, z4, k5, z5, _⟩, hB⟩ := id K3
  clear hB
  go_wp2_with fail
  refine (QP.out _ (HI.out.below (And.right K3))).mono ?_; rintro e w4 ⟨rfl, hb4⟩
  have K4 : Keep w [(w.heap.size + 1, 0, .int .i64 u), (w.heap.size + 1, 1, .int .i64 v), (w.heap.size + 1, 2, .bool raw2), (w.heap.size, 0, .int .i64 x), (w.heap.size, 1, .int .i64 y), (w.heap.size, 2, .bool raw)] w4 := Keep.below hb4 K3
  clear hb4
  clear k0 z0 k1 z1 k2 z2 k3 z3 k4 z4 k5 z5
  obtain ⟨⟨k0, z0, k1, z1, k2, z2, k3, z3, k4, z4, k5, z5, _⟩, hB⟩ := id K4
  clear hB
  go_wp2_with fail
  refine (bits_self _ _ _).mono ?_; rintro e w' ⟨rfl, rfl⟩
  go_wp2_with fail
  refine (QM.out _).mono ?_; rintro e w' ⟨rfl, rfl⟩
  go_wp2_with fail
  refine (QQ.out _).mono ?_; rintro e w' ⟨rfl, rfl⟩
  go_wp2_with fail
  refine (QN.out _).mono ?_; rintro e w' ⟨rfl, rfl⟩
  go_wp2_with fail
  refine (bits_self _ _ _).mono ?_; rintro e w' ⟨rfl, rfl⟩
  go_wp2_with fail
  go_ret
  exact ⟨rfl, And.right K4⟩
theorem back_any (x y : Int) (raw : Bool) (u v : Int) (raw2 : Bool) (w : World) (hI : Inv w) :
    Calls Tryd.prog 10 #[.agg #[.int .i64 x, .int .i64 y, .bool raw], .agg #[.int .i64 u, .int .i64 v, .bool raw2]] w fun e w' => e = .returned (.bool true) ∧ Below w.heap.size w w' := by
  cases h1 : numC (zw raw x) (zw raw y) with
  | none => exact back_bad1 x y raw u v raw2 h1 w
  | some p => cases h2 : numC (zw raw2 u) (zw raw2 v) with
              | none => exact back_bad2 x y raw u v raw2 (by rw [h1]; rfl) h2 w
              | some q =>
                obtain ⟨a, b⟩ := p; obtain ⟨c, d⟩ := q
                by_cases hz : c = 0 ∧ d = 0
                · exact back_zm51 x y raw u v raw2 a b c d h1 h2 hz w hI
                · cases hk : okR (a * c - b * d) (a * d + b * c)
                  · rcases quo_ends hz (okR_of h1) with h | h | ⟨p, q, h, hp, hb⟩
                    · exact back_no51 x y raw u v raw2 a b c d h1 h2 hz hk h w hI
                    · exact back_no50 x y raw u v raw2 a b c d h1 h2 hz hk h w hI
                    · exact back_no0 x y raw u v raw2 a b c d h1 h2 hz hk p q h hp hb w hI
                  · rcases quo_ends hz (okR_of h1) with h | h | ⟨p, q, h, hp, hb⟩
                    · exact back_nm51 x y raw u v raw2 a b c d h1 h2 hz hk h w hI
                    · exact back_nm50 x y raw u v raw2 a b c d h1 h2 hz hk h w hI
                    · exact back_nm0 x y raw u v raw2 a b c d h1 h2 hz hk p q h hp hb w hI
end Go.Proofs.YtipcjffbjkpmbaaDoor

