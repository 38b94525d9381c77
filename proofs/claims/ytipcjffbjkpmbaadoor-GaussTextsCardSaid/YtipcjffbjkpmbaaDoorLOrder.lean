/- The walk of GaussOrder: whatever the arguments, true. -/
import Derived.Test.YtipcjffbjkpmbaaDoorLQuos
import Derived.Test.YtipcjffbjkpmbaaDoorGl
namespace Go.Proofs.YtipcjffbjkpmbaaDoor
open Go.RowKit Flo
theorem z_some {x y : Int} {raw : Bool} {a b : Int} (h : numC (zw raw x) (zw raw y) = some (a, b)) (w : World) :
    Calls Tryd.prog 15 #[.agg #[.int .i64 x, .int .i64 y, .bool raw]] w fun e w' => e = .returned (.complex .f64 (W a) (W b)) ∧ Below w.heap.size w w' := by
  have q := z_any x y raw w
  rw [numOf_eq (numC_some h).1, numOf_eq (numC_some h).2] at q; exact q
theorem valid_W {a b : Int} (h : okR a b = true) (w : World) :
    Calls Tryd.prog 17 #[.complex .f64 (W a) (W b)] w fun e w' => e = .returned (.bool true) ∧ w = w' :=
  valid_some (W_lt' _) (W_lt' _) (numC_W (okR_iff.1 h).1 (okR_iff.1 h).2) w
theorem okR_of {x y : Int} {raw : Bool} {a b : Int} (h : numC (zw raw x) (zw raw y) = some (a, b)) : okR a b = true :=
  okR_iff.2 ⟨numOf_rng (numC_some h).1, numOf_rng (numC_some h).2⟩
theorem numC_R {a b : Int} (h : okR a b = true) : numC (W a) (W b) = some (a, b) := numC_W (okR_iff.1 h).1 (okR_iff.1 h).2
theorem okR_neg {a b : Int} (h : okR a b = true) : okR a (-b) = true := by
  have := okR_iff.1 h; exact okR_iff.2 (by omega)
theorem okR_neg' {a b : Int} (h : okR a b = false) : okR a (-b) = false := by
  cases hk : okR a (-b)
  · rfl
  · have := okR_neg hk; rw [Int.neg_neg, h] at this; cases this
set_option maxRecDepth 100000 in
set_option maxHeartbeats 4000000 in
theorem order_bad1 (x y : Int) (raw : Bool) (u v : Int) (raw2 : Bool) (s t : Int) (raw3 : Bool) (h1 : numC (zw raw x) (zw raw y) = none) (w : World) :
    Calls Tryd.prog 6 #[.agg #[.int .i64 x, .int .i64 y, .bool raw], .agg #[.int .i64 u, .int .i64 v, .bool raw2], .agg #[.int .i64 s, .int .i64 t, .bool raw3]] w fun e w' => e = .returned (.bool true) ∧ Below w.heap.size w w' := by
  have QZ1 := Lib.hid (fun w => z_any x y raw w)
  have QZ2 := Lib.hid (fun w => z_any u v raw2 w)
  have QZ3 := Lib.hid (fun w => z_any s t raw3 w)
  have QV1 := Lib.hid (fun w => valid_none (zw_lt raw x) (zw_lt raw y) h1 w)
  clear h1
  go_enter Tryd.func6, Tryd.ntmps6
  go_wp2_with fail
  refine (awake_any _).mono ?_; rintro e w' ⟨rfl, rfl⟩
  go_wp2_with fail
  refine (QZ1.out _).mono ?_; rintro e w1 ⟨rfl, hb1⟩
  have K1 : Keep w [(w.heap.size + 1 + 1, 0, .int .i64 s), (w.heap.size + 1 + 1, 1, .int .i64 t), (w.heap.size + 1 + 1, 2, .bool raw3), (w.heap.size + 1, 0, .int .i64 u), (w.heap.size + 1, 1, .int .i64 v), (w.heap.size + 1, 2, .bool raw2), (w.heap.size, 0, .int .i64 x), (w.heap.size, 1, .int .i64 y), (w.heap.size, 2, .bool raw)] w1 := Keep.below hb1 (Keep.alloc3 (k := w.heap.size + 1 + 1) _ _ _ _ (by simp) (Keep.alloc3 (k := w.heap.size + 1) _ _ _ _ (by simp) (Keep.alloc3 (k := w.heap.size) _ _ _ _ (by simp) (Keep.start w))))
  clear hb1
  obtain ⟨⟨k0, z0, k1, z1, k2, z2, k3, z3, k4, z4, k5, z5, k6, z6, k7, z7, k8, z8, _⟩, hB⟩ := id K1
  clear hB
  go_wp2_with fail
  refine (QZ2.out _).mono ?_; rintro e w2 ⟨rfl, hb2⟩
  have K2 : Keep w [(w.heap.size + 1 + 1, 0, .int .i64 s), (w.heap.size + 1 + 1, 1, .int .i64 t), (w.heap.size + 1 + 1, 2, .bool raw3), (w.heap.size + 1, 0, .int .i64 u), (w.heap.size + 1, 1, .int .i64 v), (w.heap.size + 1, 2, .bool raw2), (w.heap.size, 0, .int .i64 x), (w.heap.size, 1, .int .i64 y), (w.heap.size, 2, .bool raw)] w2 := Keep.below hb2 K1
  clear hb2
  clear k0 z0 k1 z1 k2 z2 k3 z3 k4 z4 k5 z5 k6 z6 k7 z7 k8 z8
  obtain ⟨⟨k0, z0, k1, z1, k2, z2, k3, z3, k4, z4, k5, z5, k6, z6, k7, z7, k8, z8, _⟩, hB⟩ := id K2
  clear hB
  go_wp2_with fail
  refine (QZ3.out _).mono ?_; rintro e w3 ⟨rfl, hb3⟩
  have K3 : Keep w [(w.heap.size + 1 + 1, 0, .int .i64 s), (w.heap.size + 1 + 1, 1, .int .i64 t), (w.heap.size + 1 + 1, 2, .bool raw3), (w.heap.size + 1, 0, .int .i64 u), (w.heap.size + 1, 1, .int .i64 v), (w.heap.size + 1, 2, .bool raw2), (w.heap.size, 0, .int .i64 x), (w.heap.size, 1, .int .i64 y), (w.heap.size, 2, .bool raw)] w3 := Keep.below hb3 K2
  clear hb3
  clear k0 z0 k1 z1 k2 z2 k3 z3 k4 z4 k5 z5 k6 z6 k7 z7 k8 z8
  obtain ⟨⟨k0, z0, k1, z1, k2, z2, k3, z3, k4, z4, k5, z5, k6, z6, k7, z7, k8, z8, _⟩, hB⟩ := id K3
  clear hB
  go_wp2_with fail
  refine (QV1.out _).mono ?_; rintro e w' ⟨rfl, rfl⟩
  go_wp2_with fail
  go_ret
  exact ⟨rfl, And.right K3⟩
set_option maxRecDepth 100000 in
set_option maxHeartbeats 4000000 in
theorem order_bad2 (x y : Int) (raw : Bool) (u v : Int) (raw2 : Bool) (s t : Int) (raw3 : Bool) (h1 : (numC (zw raw x) (zw raw y)).isSome = true) (h2 : numC (zw raw2 u) (zw raw2 v) = none) (w : World) :
    Calls Tryd.prog 6 #[.agg #[.int .i64 x, .int .i64 y, .bool raw], .agg #[.int .i64 u, .int .i64 v, .bool raw2], .agg #[.int .i64 s, .int .i64 t, .bool raw3]] w fun e w' => e = .returned (.bool true) ∧ Below w.heap.size w w' := by
  have QZ1 := Lib.hid (fun w => z_any x y raw w)
  have QZ2 := Lib.hid (fun w => z_any u v raw2 w)
  have QZ3 := Lib.hid (fun w => z_any s t raw3 w)
  have QV1 := Lib.hid (fun w => valid_any _ _ (zw_lt raw x) (zw_lt raw y) w)
  rw [h1] at QV1
  have QV2 := Lib.hid (fun w => valid_none (zw_lt raw2 u) (zw_lt raw2 v) h2 w)
  clear h1 h2
  go_enter Tryd.func6, Tryd.ntmps6
  go_wp2_with fail
  refine (awake_any _).mono ?_; rintro e w' ⟨rfl, rfl⟩
  go_wp2_with fail
  refine (QZ1.out _).mono ?_; rintro e w1 ⟨rfl, hb1⟩
  have K1 : Keep w [(w.heap.size + 1 + 1, 0, .int .i64 s), (w.heap.size + 1 + 1, 1, .int .i64 t), (w.heap.size + 1 + 1, 2, .bool raw3), (w.heap.size + 1, 0, .int .i64 u), (w.heap.size + 1, 1, .int .i64 v), (w.heap.size + 1, 2, .bool raw2), (w.heap.size, 0, .int .i64 x), (w.heap.size, 1, .int .i64 y), (w.heap.size, 2, .bool raw)] w1 := Keep.below hb1 (Keep.alloc3 (k := w.heap.size + 1 + 1) _ _ _ _ (by simp) (Keep.alloc3 (k := w.heap.size + 1) _ _ _ _ (by simp) (Keep.alloc3 (k := w.heap.size) _ _ _ _ (by simp) (Keep.start w))))
  clear hb1
  obtain ⟨⟨k0, z0, k1, z1, k2, z2, k3, z3, k4, z4, k5, z5, k6, z6, k7, z7, k8, z8, _⟩, hB⟩ := id K1
  clear hB
  go_wp2_with fail
  refine (QZ2.out _).mono ?_; rintro e w2 ⟨rfl, hb2⟩
  have K2 : Keep w [(w.heap.size + 1 + 1, 0, .int .i64 s), (w.heap.size + 1 + 1, 1, .int .i64 t), (w.heap.size + 1 + 1, 2, .bool raw3), (w.heap.size + 1, 0, .int .i64 u), (w.heap.size + 1, 1, .int .i64 v), (w.heap.size + 1, 2, .bool raw2), (w.heap.size, 0, .int .i64 x), (w.heap.size, 1, .int .i64 y), (w.heap.size, 2, .bool raw)] w2 := Keep.below hb2 K1
  clear hb2
  clear k0 z0 k1 z1 k2 z2 k3 z3 k4 z4 k5 z5 k6 z6 k7 z7 k8 z8
  obtain ⟨⟨k0, z0, k1, z1, k2, z2, k3, z3, k4, z4, k5, z5, k6, z6, k7, z7, k8, z8, _⟩, hB⟩ := id K2
  clear hB
  go_wp2_with fail
  refine (QZ3.out _).mono ?_; rintro e w3 ⟨rfl, hb3⟩
  have K3 : Keep w [(w.heap.size + 1 + 1, 0, .int .i64 s), (w.heap.size + 1 + 1, 1, .int .i64 t), (w.heap.size + 1 + 1, 2, .bool raw3), (w.heap.size + 1, 0, .int .i64 u), (w.heap.size + 1, 1, .int .i64 v), (w.heap.size + 1, 2, .bool raw2), (w.heap.size, 0, .int .i64 x), (w.heap.size, 1, .int .i64 y), (w.heap.size, 2, .bool raw)] w3 := Keep.below hb3 K2
  clear hb3
  clear k0 z0 k1 z1 k2 z2 k3 z3 k4 z4 k5 z5 k6 z6 k7 z7 k8 z8
  obtain ⟨⟨k0, z0, k1, z1, k2, z2, k3, z3, k4, z4, k5, z5, k6, z6, k7, z7, k8, z8, _⟩, hB⟩ := id K3
  clear hB
  go_wp2_with fail
  refine (QV1.out _).mono ?_; rintro e w' ⟨rfl, rfl⟩
  go_wp2_with fail
  refine (QV2.out _).mono ?_; rintro e w' ⟨rfl, rfl⟩
  go_wp2_with fail
  go_ret
  exact ⟨rfl, And.right K3⟩
set_option maxRecDepth 100000 in
set_option maxHeartbeats 4000000 in
theorem order_bad3 (x y : Int) (raw : Bool) (u v : Int) (raw2 : Bool) (s t : Int) (raw3 : Bool) (h1 : (numC (zw raw x) (zw raw y)).isSome = true) (h2 : (numC (zw raw2 u) (zw raw2 v)).isSome = true) (h3 : numC (zw raw3 s) (zw raw3 t) = none) (w : World) :
    Calls Tryd.prog 6 #[.agg #[.int .i64 x, .int .i64 y, .bool raw], .agg #[.int .i64 u, .int .i64 v, .bool raw2], .agg #[.int .i64 s, .int .i64 t, .bool raw3]] w fun e w' => e = .returned (.bool true) ∧ Below w.heap.size w w' := by
  have QZ1 := Lib.hid (fun w => z_any x y raw w)
  have QZ2 := Lib.hid (fun w => z_any u v raw2 w)
  have QZ3 := Lib.hid (fun w => z_any s t raw3 w)
  have QV1 := Lib.hid (fun w => valid_any _ _ (zw_lt raw x) (zw_lt raw y) w)
  rw [h1] at QV1
  have QV2 := Lib.hid (fun w => valid_any _ _ (zw_lt raw2 u) (zw_lt raw2 v) w)
  rw [h2] at QV2
  have QV3 := Lib.hid (fun w => valid_none (zw_lt raw3 s) (zw_lt raw3 t) h3 w)
  clear h1 h2 h3
  go_enter Tryd.func6, Tryd.ntmps6
  go_wp2_with fail
  refine (awake_any _).mono ?_; rintro e w' ⟨rfl, rfl⟩
  go_wp2_with fail
  refine (QZ1.out _).mono ?_; rintro e w1 ⟨rfl, hb1⟩
  have K1 : Keep w [(w.heap.size + 1 + 1, 0, .int .i64 s), (w.heap.size + 1 + 1, 1, .int .i64 t), (w.heap.size + 1 + 1, 2, .bool raw3), (w.heap.size + 1, 0, .int .i64 u), (w.heap.size + 1, 1, .int .i64 v), (w.heap.size + 1, 2, .bool raw2), (w.heap.size, 0, .int .i64 x), (w.heap.size, 1, .int .i64 y), (w.heap.size, 2, .bool raw)] w1 := Keep.below hb1 (Keep.alloc3 (k := w.heap.size + 1 + 1) _ _ _ _ (by simp) (Keep.alloc3 (k := w.heap.size + 1) _ _ _ _ (by simp) (Keep.alloc3 (k := w.heap.size) _ _ _ _ (by simp) (Keep.start w))))
  clear hb1
  obtain ⟨⟨k0, z0, k1, z1, k2, z2, k3, z3, k4, z4, k5, z5, k6, z6, k7, z7, k8, z8, _⟩, hB⟩ := id K1
  clear hB
  go_wp2_with fail
  refine (QZ2.out _).mono ?_; rintro e w2 ⟨rfl, hb2⟩
  have K2 : Keep w [(w.heap.size + 1 + 1, 0, .int .i64 s), (w.heap.size + 1 + 1, 1, .int .i64 t), (w.heap.size + 1 + 1, 2, .bool raw3), (w.heap.size + 1, 0, .int .i64 u), (w.heap.size + 1, 1, .int .i64 v), (w.heap.size + 1, 2, .bool raw2), (w.heap.size, 0, .int .i64 x), (w.heap.size, 1, .int .i64 y), (w.heap.size, 2, .bool raw)] w2 := Keep.below hb2 K1
  clear hb2
  clear k0 z0 k1 z1 k2 z2 k3 z3 k4 z4 k5 z5 k6 z6 k7 z7 k8 z8
  obtain ⟨⟨k0, z0, k1, z1, k2, z2, k3, z3, k4, z4, k5, z5, k6, z6, k7, z7, k8, z8, _⟩, hB⟩ := id K2
  clear hB
  go_wp2_with fail
  refine (QZ3.out _).mono ?_; rintro e w3 ⟨rfl, hb3⟩
  have K3 : Keep w [(w.heap.size + 1 + 1, 0, .int .i64 s), (w.heap.size + 1 + 1, 1, .int .i64 t), (w.heap.size + 1 + 1, 2, .bool raw3), (w.heap.size + 1, 0, .int .i64 u), (w.heap.size + 1, 1, .int .i64 v), (w.heap.size + 1, 2, .bool raw2), (w.heap.size, 0, .int .i64 x), (w.heap.size, 1, .int .i64 y), (w.heap.size, 2, .bool raw)] w3 := Keep.below hb3 K2
  clear hb3
  clear k0 z0 k1 z1 k2 z2 k3 z3 k4 z4 k5 z5 k6 z6 k7 z7 k8 z8
  obtain ⟨⟨k0, z0, k1, z1, k2, z2, k3, z3, k4, z4, k5, z5, k6, z6, k7, z7, k8, z8, _⟩, hB⟩ := id K3
  clear hB
  go_wp2_with fail
  refine (QV1.out _).mono ?_; rintro e w' ⟨rfl, rfl⟩
  go_wp2_with fail
  refine (QV2.out _).mono ?_; rintro e w' ⟨rfl, rfl⟩
  go_wp2_with fail
  refine (QV3.out _).mono ?_; rintro e w' ⟨rfl, rfl⟩
  go_wp2_with fail
  go_ret
  exact ⟨rfl, And.right K3⟩
set_option maxRecDepth 100000 in
set_option maxHeartbeats 4000000 in
theorem order_ok0y (x y : Int) (raw : Bool) (u v : Int) (raw2 : Bool) (s t : Int) (raw3 : Bool) (a b c d e f : Int) (h1 : numC (zw raw x) (zw raw y) = some (a, b)) (h2 : numC (zw raw2 u) (zw raw2 v) = some (c, d)) (h3 : numC (zw raw3 s) (zw raw3 t) = some (e, f)) (hab : lessB a b c d = true ∧ lessB c d e f = true) (hk : okR (a * c - b * d) (a * d + b * c) = true) (w : World) :
    Calls Tryd.prog 6 #[.agg #[.int .i64 x, .int .i64 y, .bool raw], .agg #[.int .i64 u, .int .i64 v, .bool raw2], .agg #[.int .i64 s, .int .i64 t, .bool raw3]] w fun e w' => e = .returned (.bool true) ∧ Below w.heap.size w w' := by
  have QZ1 := Lib.hid (fun w => z_some h1 w); have QZ2 := Lib.hid (fun w => z_some h2 w); have QZ3 := Lib.hid (fun w => z_some h3 w)
  have ka := okR_of h1; have kb := okR_of h2; have kc := okR_of h3
  have QV1 := Lib.hid (fun w => valid_W ka w); have QV2 := Lib.hid (fun w => valid_W kb w); have QV3 := Lib.hid (fun w => valid_W kc w)
  have QL1 := Lib.hid (fun w => less_some (W_lt' a) (W_lt' b) (W_lt' c) (W_lt' d) (numC_R ka) (numC_R kb) w)
  have QL2 := Lib.hid (fun w => less_some (W_lt' c) (W_lt' d) (W_lt' a) (W_lt' b) (numC_R kb) (numC_R ka) w)
  have QL3 := Lib.hid (fun w => less_some (W_lt' c) (W_lt' d) (W_lt' e) (W_lt' f) (numC_R kb) (numC_R kc) w)
  have QL4 := Lib.hid (fun w => less_some (W_lt' a) (W_lt' b) (W_lt' e) (W_lt' f) (numC_R ka) (numC_R kc) w)
  have QA1 := Lib.hid (fun w => add_bnd (W_lt' a) (W_lt' b) (W_lt' c) (W_lt' d) (numC_R ka) (numC_R kb) w)
  have qa2 := fun w => add_bnd (W_lt' c) (W_lt' d) (W_lt' a) (W_lt' b) (numC_R kb) (numC_R ka) w
  rw [Int.add_comm c a, Int.add_comm d b] at qa2
  have QA2 := Lib.hid qa2
  have QM1 := Lib.hid (fun w => mul_bnd (W_lt' a) (W_lt' b) (W_lt' c) (W_lt' d) (numC_R ka) (numC_R kb) w)
  have qm2 := fun w => mul_bnd (W_lt' c) (W_lt' d) (W_lt' a) (W_lt' b) (numC_R kb) (numC_R ka) w
  rw [Int.mul_comm c a, Int.mul_comm d b, Int.mul_comm c b, Int.mul_comm d a, Int.add_comm (b * c)] at qm2
  have QM2 := Lib.hid qm2
  have QC1 := Lib.hid (fun w => conj_some (W_lt' a) (W_lt' b) (numC_R ka) w)
  have qc2 := fun w => conj_some (W_lt' a) (W_lt' (-b)) (numC_R (okR_neg ka)) w
  rw [Int.neg_neg] at qc2
  have QC2 := Lib.hid qc2
  have QC3 := Lib.hid (fun w => conj_some (W_lt' c) (W_lt' d) (numC_R kb) w)
  have qm3 := fun w => mul_bnd (W_lt' a) (W_lt' (-b)) (W_lt' c) (W_lt' (-d)) (numC_R (okR_neg ka)) (numC_R (okR_neg kb)) w
  rw [Int.neg_mul_neg, show a * -d + -b * c = -(a * d + b * c) from by rw [Int.mul_neg, Int.neg_mul]; omega] at qm3
  have heq : (FloatKind.f64.format.order (W a) (W c) == some Ordering.eq && FloatKind.f64.format.order (W b) (W d) == some Ordering.eq) = decide (a = c ∧ b = d) := by
    rw [ord_W_eq (okR_iff.1 ka).1 (okR_iff.1 kb).1, ord_W_eq (okR_iff.1 ka).2 (okR_iff.1 kb).2]; simp
  have f0 : lessB a b c d = true := by unfold lessB at *; simp at *; omega
  have f1 : lessB c d a b = false := by unfold lessB at *; simp at *; omega
  have f2 : lessB c d e f = true := by unfold lessB at *; simp at *; omega
  have f3 : lessB a b e f = true := by unfold lessB at *; simp at *; omega
  have fe : decide (a = c ∧ b = d) = false := by unfold lessB at *; simp at *; omega
  rw [fe] at heq
  rw [bnd_pos hk] at QM1 QM2
  rw [bnd_pos (okR_neg hk)] at qm3
  have QC4 := Lib.hid (fun w => conj_some (W_lt' _) (W_lt' _) (numC_R hk) w)
  rw [f0] at QL1
  rw [f1] at QL2
  rw [f2] at QL3
  rw [f3] at QL4
  have QM3 := Lib.hid qm3
  clear qm3 qa2 qm2 qc2 h1 h2 h3 hab hk ka kb kc fe f0 f1 f2 f3
  go_enter Tryd.func6, Tryd.ntmps6
  go_wp2_with fail
  refine (awake_any _).mono ?_; rintro e w' ⟨rfl, rfl⟩
  go_wp2_with fail
  refine (QZ1.out _).mono ?_; rintro e w1 ⟨rfl, hb1⟩
  have K1 : Keep w [(w.heap.size + 1 + 1, 0, .int .i64 s), (w.heap.size + 1 + 1, 1, .int .i64 t), (w.heap.size + 1 + 1, 2, .bool raw3), (w.heap.size + 1, 0, .int .i64 u), (w.heap.size + 1, 1, .int .i64 v), (w.heap.size + 1, 2, .bool raw2), (w.heap.size, 0, .int .i64 x), (w.heap.size, 1, .int .i64 y), (w.heap.size, 2, .bool raw)] w1 := Keep.below hb1 (Keep.alloc3 (k := w.heap.size + 1 + 1) _ _ _ _ (by simp) (Keep.alloc3 (k := w.heap.size + 1) _ _ _ _ (by simp) (Keep.alloc3 (k := w.heap.size) _ _ _ _ (by simp) (Keep.start w))))
  clear hb1
  obtain ⟨⟨k0, z0, k1, z1, k2, z2, k3, z3, k4, z4, k5, z5, k6, z6, k7, z7, k8, z8, _⟩, hB⟩ := id K1
  clear hB
  go_wp2_with fail
  refine (QZ2.out _).mono ?_; rintro e w2 ⟨rfl, hb2⟩
  have K2 : Keep w [(w.heap.size + 1 + 1, 0, .int .i64 s), (w.heap.size + 1 + 1, 1, .int .i64 t), (w.heap.size + 1 + 1, 2, .bool raw3), (w.heap.size + 1, 0, .int .i64 u), (w.heap.size + 1, 1, .int .i64 v), (w.heap.size + 1, 2, .bool raw2), (w.heap.size, 0, .int .i64 x), (w.heap.size, 1, .int .i64 y), (w.heap.size, 2, .bool raw)] w2 := Keep.below hb2 K1
  clear hb2
  clear k0 z0 k1 z1 k2 z2 k3 z3 k4 z4 k5 z5 k6 z6 k7 z7 k8 z8
  obtain ⟨⟨k0, z0, k1, z1, k2, z2, k3, z3, k4, z4, k5, z5, k6, z6, k7, z7, k8, z8, _⟩, hB⟩ := id K2
  clear hB
  go_wp2_with fail
  refine (QZ3.out _).mono ?_; rintro e w3 ⟨rfl, hb3⟩
  have K3 : Keep w [(w.heap.size + 1 + 1, 0, .int .i64 s), (w.heap.size + 1 + 1, 1, .int .i64 t), (w.heap.size + 1 + 1, 2, .bool raw3), (w.heap.size + 1, 0, .int .i64 u), (w.heap.size + 1, 1, .int .i64 v), (w.heap.size + 1, 2, .bool raw2), (w.heap.size, 0, .int .i64 x), (w.heap.size, 1, .int .i64 y), (w.heap.size, 2, .bool raw)] w3 := Keep.below hb3 K2
  clear hb3
  clear k0 z0 k1 z1 k2 z2 k3 z3 k4 z4 k5 z5 k6 z6 k7 z7 k8 z8
  obtain ⟨⟨k0, z0, k1, z1, k2, z2, k3, z3, k4, z4, k5, z5, k6, z6, k7, z7, k8, z8, _⟩, hB⟩ := id K3
  clear hB
  go_wp2_with fail
  refine (QV1.out _).mono ?_; rintro e w' ⟨rfl, rfl⟩
  go_wp2_with fail
  refine (QV2.out _).mono ?_; rintro e w' ⟨rfl, rfl⟩
  go_wp2_with fail
  refine (QV3.out _).mono ?_; rintro e w' ⟨rfl, rfl⟩
  go_wp2_with fail
  refine (QL1.out _).mono ?_; rintro e w' ⟨rfl, rfl⟩
  go_wp2_with fail
  refine (QL2.out _).mono ?_; rintro e w' ⟨rfl, rfl⟩
  go_wp2_with fail
  refine (QL3.out _).mono ?_; rintro e w' ⟨rfl, rfl⟩
  go_wp2_with fail
  refine (QL4.out _).mono ?_; rintro e w' ⟨rfl, rfl⟩
  go_wp2_with fail
  refine (QA1.out _).mono ?_; rintro e w' ⟨rfl, rfl⟩
  go_wp2_with fail
  refine (QA2.out _).mono ?_; rintro e w' ⟨rfl, rfl⟩
  go_wp2_with fail
  refine (QM1.out _).mono ?_; rintro e w' ⟨rfl, rfl⟩
  go_wp2_with fail
  refine (QM2.out _).mono ?_; rintro e w' ⟨rfl, rfl⟩
  go_wp2_with fail
  refine (bits_self _ _ _).mono ?_; rintro e w' ⟨rfl, rfl⟩
  go_wp2_with fail
  refine (bits_self _ _ _).mono ?_; rintro e w' ⟨rfl, rfl⟩
  go_wp2_with fail
  refine (QC1.out _).mono ?_; rintro e w' ⟨rfl, rfl⟩
  go_wp2_with fail
  refine (QC2.out _).mono ?_; rintro e w' ⟨rfl, rfl⟩
  go_wp2_with fail
  refine (QC3.out _).mono ?_; rintro e w' ⟨rfl, rfl⟩
  go_wp2_with fail
  refine (QM3.out _).mono ?_; rintro e w' ⟨rfl, rfl⟩
  go_wp2_with fail
  refine (QC4.out _).mono ?_; rintro e w' ⟨rfl, rfl⟩
  go_wp2_with fail
  refine (bits_self _ _ _).mono ?_; rintro e w' ⟨rfl, rfl⟩
  go_wp2_with fail
  refine (bits_self _ _ _).mono ?_; rintro e w' ⟨rfl, rfl⟩
  go_wp2_with fail
  go_ret
  exact ⟨rfl, And.right K3⟩
set_option maxRecDepth 100000 in
set_option maxHeartbeats 4000000 in
theorem order_ok0n (x y : Int) (raw : Bool) (u v : Int) (raw2 : Bool) (s t : Int) (raw3 : Bool) (a b c d e f : Int) (h1 : numC (zw raw x) (zw raw y) = some (a, b)) (h2 : numC (zw raw2 u) (zw raw2 v) = some (c, d)) (h3 : numC (zw raw3 s) (zw raw3 t) = some (e, f)) (hab : lessB a b c d = true ∧ lessB c d e f = true) (hk : okR (a * c - b * d) (a * d + b * c) = false) (w : World) :
    Calls Tryd.prog 6 #[.agg #[.int .i64 x, .int .i64 y, .bool raw], .agg #[.int .i64 u, .int .i64 v, .bool raw2], .agg #[.int .i64 s, .int .i64 t, .bool raw3]] w fun e w' => e = .returned (.bool true) ∧ Below w.heap.size w w' := by
  have QZ1 := Lib.hid (fun w => z_some h1 w); have QZ2 := Lib.hid (fun w => z_some h2 w); have QZ3 := Lib.hid (fun w => z_some h3 w)
  have ka := okR_of h1; have kb := okR_of h2; have kc := okR_of h3
  have QV1 := Lib.hid (fun w => valid_W ka w); have QV2 := Lib.hid (fun w => valid_W kb w); have QV3 := Lib.hid (fun w => valid_W kc w)
  have QL1 := Lib.hid (fun w => less_some (W_lt' a) (W_lt' b) (W_lt' c) (W_lt' d) (numC_R ka) (numC_R kb) w)
  have QL2 := Lib.hid (fun w => less_some (W_lt' c) (W_lt' d) (W_lt' a) (W_lt' b) (numC_R kb) (numC_R ka) w)
  have QL3 := Lib.hid (fun w => less_some (W_lt' c) (W_lt' d) (W_lt' e) (W_lt' f) (numC_R kb) (numC_R kc) w)
  have QL4 := Lib.hid (fun w => less_some (W_lt' a) (W_lt' b) (W_lt' e) (W_lt' f) (numC_R ka) (numC_R kc) w)
  have QA1 := Lib.hid (fun w => add_bnd (W_lt' a) (W_lt' b) (W_lt' c) (W_lt' d) (numC_R ka) (numC_R kb) w)
  have qa2 := fun w => add_bnd (W_lt' c) (W_lt' d) (W_lt' a) (W_lt' b) (numC_R kb) (numC_R ka) w
  rw [Int.add_comm c a, Int.add_comm d b] at qa2
  have QA2 := Lib.hid qa2
  have QM1 := Lib.hid (fun w => mul_bnd (W_lt' a) (W_lt' b) (W_lt' c) (W_lt' d) (numC_R ka) (numC_R kb) w)
  have qm2 := fun w => mul_bnd (W_lt' c) (W_lt' d) (W_lt' a) (W_lt' b) (numC_R kb) (numC_R ka) w
  rw [Int.mul_comm c a, Int.mul_comm d b, Int.mul_comm c b, Int.mul_comm d a, Int.add_comm (b * c)] at qm2
  have QM2 := Lib.hid qm2
  have QC1 := Lib.hid (fun w => conj_some (W_lt' a) (W_lt' b) (numC_R ka) w)
  have qc2 := fun w => conj_some (W_lt' a) (W_lt' (-b)) (numC_R (okR_neg ka)) w
  rw [Int.neg_neg] at qc2
  have QC2 := Lib.hid qc2
  have QC3 := Lib.hid (fun w => conj_some (W_lt' c) (W_lt' d) (numC_R kb) w)
  have qm3 := fun w => mul_bnd (W_lt' a) (W_lt' (-b)) (W_lt' c) (W_lt' (-d)) (numC_R (okR_neg ka)) (numC_R (okR_neg kb)) w
  rw [Int.neg_mul_neg, show a * -d + -b * c = -(a * d + b * c) from by rw [Int.mul_neg, Int.neg_mul]; omega] at qm3
  have heq : (FloatKind.f64.format.order (W a) (W c) == some Ordering.eq && FloatKind.f64.format.order (W b) (W d) == some Ordering.eq) = decide (a = c ∧ b = d) := by
    rw [ord_W_eq (okR_iff.1 ka).1 (okR_iff.1 kb).1, ord_W_eq (okR_iff.1 ka).2 (okR_iff.1 kb).2]; simp
  have f0 : lessB a b c d = true := by unfold lessB at *; simp at *; omega
  have f1 : lessB c d a b = false := by unfold lessB at *; simp at *; omega
  have f2 : lessB c d e f = true := by unfold lessB at *; simp at *; omega
  have f3 : lessB a b e f = true := by unfold lessB at *; simp at *; omega
  have fe : decide (a = c ∧ b = d) = false := by unfold lessB at *; simp at *; omega
  rw [fe] at heq
  rw [bnd_neg hk] at QM1 QM2
  rw [bnd_neg (okR_neg' hk)] at qm3
  have QC4 := Lib.hid (fun w => conj_some (W_lt' 0) (W_lt' 0) (numC_R (a := 0) (b := 0) rfl) w)
  rw [f0] at QL1
  rw [f1] at QL2
  rw [f2] at QL3
  rw [f3] at QL4
  have QM3 := Lib.hid qm3
  clear qm3 qa2 qm2 qc2 h1 h2 h3 hab hk ka kb kc fe f0 f1 f2 f3
  go_enter Tryd.func6, Tryd.ntmps6
  go_wp2_with fail
  refine (awake_any _).mono ?_; rintro e w' ⟨rfl, rfl⟩
  go_wp2_with fail
  refine (QZ1.out _).mono ?_; rintro e w1 ⟨rfl, hb1⟩
  have K1 : Keep w [(w.heap.size + 1 + 1, 0, .int .i64 s), (w.heap.size + 1 + 1, 1, .int .i64 t), (w.heap.size + 1 + 1, 2, .bool raw3), (w.heap.size + 1, 0, .int .i64 u), (w.heap.size + 1, 1, .int .i64 v), (w.heap.size + 1, 2, .bool raw2), (w.heap.size, 0, .int .i64 x), (w.heap.size, 1, .int .i64 y), (w.heap.size, 2, .bool raw)] w1 := Keep.below hb1 (Keep.alloc3 (k := w.heap.size + 1 + 1) _ _ _ _ (by simp) (Keep.alloc3 (k := w.heap.size + 1) _ _ _ _ (by simp) (Keep.alloc3 (k := w.heap.size) _ _ _ _ (by simp) (Keep.start w))))
  clear hb1
  obtain ⟨⟨k0, z0, k1, z1, k2, z2, k3, z3, k4, z4, k5, z5, k6, z6, k7, z7, k8, z8, _⟩, hB⟩ := id K1
  clear hB
  go_wp2_with fail
  refine (QZ2.out _).mono ?_; rintro e w2 ⟨rfl, hb2⟩
  have K2 : Keep w [(w.heap.size + 1 + 1, 0, .int .i64 s), (w.heap.size + 1 + 1, 1, .int .i64 t), (w.heap.size + 1 + 1, 2, .bool raw3), (w.heap.size + 1, 0, .int .i64 u), (w.heap.size + 1, 1, .int .i64 v), (w.heap.size + 1, 2, .bool raw2), (w.heap.size, 0, .int .i64 x), (w.heap.size, 1, .int .i64 y), (w.heap.size, 2, .bool raw)] w2 := Keep.below hb2 K1
  clear hb2
  clear k0 z0 k1 z1 k2 z2 k3 z3 k4 z4 k5 z5 k6 z6 k7 z7 k8 z8
  obtain ⟨⟨k0, z0, k1, z1, k2, z2, k3, z3, k4, z4, k5, z5, k6, z6, k7, z7, k8, z8, _⟩, hB⟩ := id K2
  clear hB
  go_wp2_with fail
  refine (QZ3.out _).mono ?_; rintro e w3 ⟨rfl, hb3⟩
  have K3 : Keep w [(w.heap.size + 1 + 1, 0, .int .i64 s), (w.heap.size + 1 + 1, 1, .int .i64 t), (w.heap.size + 1 + 1, 2, .bool raw3), (w.heap.size + 1, 0, .int .i64 u), (w.heap.size + 1, 1, .int .i64 v), (w.heap.size + 1, 2, .bool raw2), (w.heap.size, 0, .int .i64 x), (w.heap.size, 1, .int .i64 y), (w.heap.size, 2, .bool raw)] w3 := Keep.below hb3 K2
  clear hb3
  clear k0 z0 k1 z1 k2 z2 k3 z3 k4 z4 k5 z5 k6 z6 k7 z7 k8 z8
  obtain ⟨⟨k0, z0, k1, z1, k2, z2, k3, z3, k4, z4, k5, z5, k6, z6, k7, z7, k8, z8, _⟩, hB⟩ := id K3
  clear hB
  go_wp2_with fail
  refine (QV1.out _).mono ?_; rintro e w' ⟨rfl, rfl⟩
  go_wp2_with fail
  refine (QV2.out _).mono ?_; rintro e w' ⟨rfl, rfl⟩
  go_wp2_with fail
  refine (QV3.out _).mono ?_; rintro e w' ⟨rfl, rfl⟩
  go_wp2_with fail
  refine (QL1.out _).mono ?_; rintro e w' ⟨rfl, rfl⟩
  go_wp2_with fail
  refine (QL2.out _).mono ?_; rintro e w' ⟨rfl, rfl⟩
  go_wp2_with fail
  refine (QL3.out _).mono ?_; rintro e w' ⟨rfl, rfl⟩
  go_wp2_with fail
  refine (QL4.out _).mono ?_; rintro e w' ⟨rfl, rfl⟩
  go_wp2_with fail
  refine (QA1.out _).mono ?_; rintro e w' ⟨rfl, rfl⟩
  go_wp2_with fail
  refine (QA2.out _).mono ?_; rintro e w' ⟨rfl, rfl⟩
  go_wp2_with fail
  refine (QM1.out _).mono ?_; rintro e w' ⟨rfl, rfl⟩
  go_wp2_with fail
  refine (QM2.out _).mono ?_; rintro e w' ⟨rfl, rfl⟩
  go_wp2_with fail
  refine (bits_self _ _ _).mono ?_; rintro e w' ⟨rfl, rfl⟩
  go_wp2_with fail
  refine (bits_self _ _ _).mono ?_; rintro e w' ⟨rfl, rfl⟩
  go_wp2_with fail
  refine (QC1.out _).mono ?_; rintro e w' ⟨rfl, rfl⟩
  go_wp2_with fail
  refine (QC2.out _).mono ?_; rintro e w' ⟨rfl, rfl⟩
  go_wp2_with fail
  refine (QC3.out _).mono ?_; rintro e w' ⟨rfl, rfl⟩
  go_wp2_with fail
  refine (QM3.out _).mono ?_; rintro e w' ⟨rfl, rfl⟩
  go_wp2_with fail
  refine (QC4.out _).mono ?_; rintro e w' ⟨rfl, rfl⟩
  go_wp2_with fail
  refine (bits_self _ _ _).mono ?_; rintro e w' ⟨rfl, rfl⟩
  go_wp2_with fail
  go_ret
  exact ⟨rfl, And.right K3⟩
set_option maxRecDepth 100000 in
set_option maxHeartbeats 4000000 in
theorem order_ok1y (x y : Int) (raw : Bool) (u v : Int) (raw2 : Bool) (s t : Int) (raw3 : Bool) (a b c d e f : Int) (h1 : numC (zw raw x) (zw raw y) = some (a, b)) (h2 : numC (zw raw2 u) (zw raw2 v) = some (c, d)) (h3 : numC (zw raw3 s) (zw raw3 t) = some (e, f)) (hab : lessB a b c d = true ∧ lessB c d e f = false) (hk : okR (a * c - b * d) (a * d + b * c) = true) (w : World) :
    Calls Tryd.prog 6 #[.agg #[.int .i64 x, .int .i64 y, .bool raw], .agg #[.int .i64 u, .int .i64 v, .bool raw2], .agg #[.int .i64 s, .int .i64 t, .bool raw3]] w fun e w' => e = .returned (.bool true) ∧ Below w.heap.size w w' := by
  have QZ1 := Lib.hid (fun w => z_some h1 w); have QZ2 := Lib.hid (fun w => z_some h2 w); have QZ3 := Lib.hid (fun w => z_some h3 w)
  have ka := okR_of h1; have kb := okR_of h2; have kc := okR_of h3
  have QV1 := Lib.hid (fun w => valid_W ka w); have QV2 := Lib.hid (fun w => valid_W kb w); have QV3 := Lib.hid (fun w => valid_W kc w)
  have QL1 := Lib.hid (fun w => less_some (W_lt' a) (W_lt' b) (W_lt' c) (W_lt' d) (numC_R ka) (numC_R kb) w)
  have QL2 := Lib.hid (fun w => less_some (W_lt' c) (W_lt' d) (W_lt' a) (W_lt' b) (numC_R kb) (numC_R ka) w)
  have QL3 := Lib.hid (fun w => less_some (W_lt' c) (W_lt' d) (W_lt' e) (W_lt' f) (numC_R kb) (numC_R kc) w)
  have QL4 := Lib.hid (fun w => less_some (W_lt' a) (W_lt' b) (W_lt' e) (W_lt' f) (numC_R ka) (numC_R kc) w)
  have QA1 := Lib.hid (fun w => add_bnd (W_lt' a) (W_lt' b) (W_lt' c) (W_lt' d) (numC_R ka) (numC_R kb) w)
  have qa2 := fun w => add_bnd (W_lt' c) (W_lt' d) (W_lt' a) (W_lt' b) (numC_R kb) (numC_R ka) w
  rw [Int.add_comm c a, Int.add_comm d b] at qa2
  have QA2 := Lib.hid qa2
  have QM1 := Lib.hid (fun w => mul_bnd (W_lt' a) (W_lt' b) (W_lt' c) (W_lt' d) (numC_R ka) (numC_R kb) w)
  have qm2 := fun w => mul_bnd (W_lt' c) (W_lt' d) (W_lt' a) (W_lt' b) (numC_R kb) (numC_R ka) w
  rw [Int.mul_comm c a, Int.mul_comm d b, Int.mul_comm c b, Int.mul_comm d a, Int.add_comm (b * c)] at qm2
  have QM2 := Lib.hid qm2
  have QC1 := Lib.hid (fun w => conj_some (W_lt' a) (W_lt' b) (numC_R ka) w)
  have qc2 := fun w => conj_some (W_lt' a) (W_lt' (-b)) (numC_R (okR_neg ka)) w
  rw [Int.neg_neg] at qc2
  have QC2 := Lib.hid qc2
  have QC3 := Lib.hid (fun w => conj_some (W_lt' c) (W_lt' d) (numC_R kb) w)
  have qm3 := fun w => mul_bnd (W_lt' a) (W_lt' (-b)) (W_lt' c) (W_lt' (-d)) (numC_R (okR_neg ka)) (numC_R (okR_neg kb)) w
  rw [Int.neg_mul_neg, show a * -d + -b * c = -(a * d + b * c) from by rw [Int.mul_neg, Int.neg_mul]; omega] at qm3
  have heq : (FloatKind.f64.format.order (W a) (W c) == some Ordering.eq && FloatKind.f64.format.order (W b) (W d) == some Ordering.eq) = decide (a = c ∧ b = d) := by
    rw [ord_W_eq (okR_iff.1 ka).1 (okR_iff.1 kb).1, ord_W_eq (okR_iff.1 ka).2 (okR_iff.1 kb).2]; simp
  have f0 : lessB a b c d = true := by unfold lessB at *; simp at *; omega
  have f1 : lessB c d a b = false := by unfold lessB at *; simp at *; omega
  have f2 : lessB c d e f = false := by unfold lessB at *; simp at *; omega
  have fe : decide (a = c ∧ b = d) = false := by unfold lessB at *; simp at *; omega
  rw [fe] at heq
  rw [bnd_pos hk] at QM1 QM2
  rw [bnd_pos (okR_neg hk)] at qm3
  have QC4 := Lib.hid (fun w => conj_some (W_lt' _) (W_lt' _) (numC_R hk) w)
  rw [f0] at QL1
  rw [f1] at QL2
  rw [f2] at QL3
  have QM3 := Lib.hid qm3
  clear qm3 qa2 qm2 qc2 h1 h2 h3 hab hk ka kb kc fe f0 f1 f2
  go_enter Tryd.func6, Tryd.ntmps6
  go_wp2_with fail
  refine (awake_any _).mono ?_; rintro e w' ⟨rfl, rfl⟩
  go_wp2_with fail
  refine (QZ1.out _).mono ?_; rintro e w1 ⟨rfl, hb1⟩
  have K1 : Keep w [(w.heap.size + 1 + 1, 0, .int .i64 s), (w.heap.size + 1 + 1, 1, .int .i64 t), (w.heap.size + 1 + 1, 2, .bool raw3), (w.heap.size + 1, 0, .int .i64 u), (w.heap.size + 1, 1, .int .i64 v), (w.heap.size + 1, 2, .bool raw2), (w.heap.size, 0, .int .i64 x), (w.heap.size, 1, .int .i64 y), (w.heap.size, 2, .bool raw)] w1 := Keep.below hb1 (Keep.alloc3 (k := w.heap.size + 1 + 1) _ _ _ _ (by simp) (Keep.alloc3 (k := w.heap.size + 1) _ _ _ _ (by simp) (Keep.alloc3 (k := w.heap.size) _ _ _ _ (by simp) (Keep.start w))))
  clear hb1
  obtain ⟨⟨k0, z0, k1, z1, k2, z2, k3, z3, k4, z4, k5, z5, k6, z6, k7, z7, k8, z8, _⟩, hB⟩ := id K1
  clear hB
  go_wp2_with fail
  refine (QZ2.out _).mono ?_; rintro e w2 ⟨rfl, hb2⟩
  have K2 : Keep w [(w.heap.size + 1 + 1, 0, .int .i64 s), (w.heap.size + 1 + 1, 1, .int .i64 t), (w.heap.size + 1 + 1, 2, .bool raw3), (w.heap.size + 1, 0, .int .i64 u), (w.heap.size + 1, 1, .int .i64 v), (w.heap.size + 1, 2, .bool raw2), (w.heap.size, 0, .int .i64 x), (w.heap.size, 1, .int .i64 y), (w.heap.size, 2, .bool raw)] w2 := Keep.below hb2 K1
  clear hb2
  clear k0 z0 k1 z1 k2 z2 k3 z3 k4 z4 k5 z5 k6 z6 k7 z7 k8 z8
  obtain ⟨⟨k0, z0, k1, z1, k2, z2, k3, z3, k4, z4, k5, z5, k6, z6, k7, z7, k8, z8, _⟩, hB⟩ := id K2
  clear hB
  go_wp2_with fail
  refine (QZ3.out _).mono ?_; rintro e w3 ⟨rfl, hb3⟩
  have K3 : Keep w [(w.heap.size + 1 + 1, 0, .int .i64 s), (w.heap.size + 1 + 1, 1, .int .i64 t), (w.heap.size + 1 + 1, 2, .bool raw3), (w.heap.size + 1, 0, .int .i64 u), (w.heap.size + 1, 1, .int .i64 v), (w.heap.size + 1, 2, .bool raw2), (w.heap.size, 0, .int .i64 x), (w.heap.size, 1, .int .i64 y), (w.heap.size, 2, .bool raw)] w3 := Keep.below hb3 K2
  clear hb3
  clear k0 z0 k1 z1 k2 z2 k3 z3 k4 z4 k5 z5 k6 z6 k7 z7 k8 z8
  obtain ⟨⟨k0, z0, k1, z1, k2, z2, k3, z3, k4, z4, k5, z5, k6, z6, k7, z7, k8, z8, _⟩, hB⟩ := id K3
  clear hB
  go_wp2_with fail
  refine (QV1.out _).mono ?_; rintro e w' ⟨rfl, rfl⟩
  go_wp2_with fail
  refine (QV2.out _).mono ?_; rintro e w' ⟨rfl, rfl⟩
  go_wp2_with fail
  refine (QV3.out _).mono ?_; rintro e w' ⟨rfl, rfl⟩
  go_wp2_with fail
  refine (QL1.out _).mono ?_; rintro e w' ⟨rfl, rfl⟩
  go_wp2_with fail
  refine (QL2.out _).mono ?_; rintro e w' ⟨rfl, rfl⟩
  go_wp2_with fail
  refine (QL3.out _).mono ?_; rintro e w' ⟨rfl, rfl⟩
  go_wp2_with fail
  refine (QL4.out _).mono ?_; rintro e w' ⟨rfl, rfl⟩
  go_wp2_with fail
  refine (QA1.out _).mono ?_; rintro e w' ⟨rfl, rfl⟩
  go_wp2_with fail
  refine (QA2.out _).mono ?_; rintro e w' ⟨rfl, rfl⟩
  go_wp2_with fail
  refine (QM1.out _).mono ?_; rintro e w' ⟨rfl, rfl⟩
  go_wp2_with fail
  refine (QM2.out _).mono ?_; rintro e w' ⟨rfl, rfl⟩
  go_wp2_with fail
  refine (bits_self _ _ _).mono ?_; rintro e w' ⟨rfl, rfl⟩
  go_wp2_with fail
  refine (bits_self _ _ _).mono ?_; rintro e w' ⟨rfl, rfl⟩
  go_wp2_with fail
  refine (QC1.out _).mono ?_; rintro e w' ⟨rfl, rfl⟩
  go_wp2_with fail
  refine (QC2.out _).mono ?_; rintro e w' ⟨rfl, rfl⟩
  go_wp2_with fail
  refine (QC3.out _).mono ?_; rintro e w' ⟨rfl, rfl⟩
  go_wp2_with fail
  refine (QM3.out _).mono ?_; rintro e w' ⟨rfl, rfl⟩
  go_wp2_with fail
  refine (QC4.out _).mono ?_; rintro e w' ⟨rfl, rfl⟩
  go_wp2_with fail
  refine (bits_self _ _ _).mono ?_; rintro e w' ⟨rfl, rfl⟩
  go_wp2_with fail
  refine (bits_self _ _ _).mono ?_; rintro e w' ⟨rfl, rfl⟩
  go_wp2_with fail
  go_ret
  exact ⟨rfl, And.right K3⟩
set_option maxRecDepth 100000 in
set_option maxHeartbeats 4000000 in
theorem order_ok1n (x y : Int) (raw : Bool) (u v : Int) (raw2 : Bool) (s t : Int) (raw3 : Bool) (a b c d e f : Int) (h1 : numC (zw raw x) (zw raw y) = some (a, b)) (h2 : numC (zw raw2 u) (zw raw2 v) = some (c, d)) (h3 : numC (zw raw3 s) (zw raw3 t) = some (e, f)) (hab : lessB a b c d = true ∧ lessB c d e f = false) (hk : okR (a * c - b * d) (a * d + b * c) = false) (w : World) :
    Calls Tryd.prog 6 #[.agg #[.int .i64 x, .int .i64 y, .bool raw], .agg #[.int .i64 u, .int .i64 v, .bool raw2], .agg #[.int .i64 s, .int .i64 t, .bool raw3]] w fun e w' => e = .returned (.bool true) ∧ Below w.heap.size w w' := by
  have QZ1 := Lib.hid (fun w => z_some h1 w); have QZ2 := Lib.hid (fun w => z_some h2 w); have QZ3 := Lib.hid (fun w => z_some h3 w)
  have ka := okR_of h1; have kb := okR_of h2; have kc := okR_of h3
  have QV1 := Lib.hid (fun w => valid_W ka w); have QV2 := Lib.hid (fun w => valid_W kb w); have QV3 := Lib.hid (fun w => valid_W kc w)
  have QL1 := Lib.hid (fun w => less_some (W_lt' a) (W_lt' b) (W_lt' c) (W_lt' d) (numC_R ka) (numC_R kb) w)
  have QL2 := Lib.hid (fun w => less_some (W_lt' c) (W_lt' d) (W_lt' a) (W_lt' b) (numC_R kb) (numC_R ka) w)
  have QL3 := Lib.hid (fun w => less_some (W_lt' c) (W_lt' d) (W_lt' e) (W_lt' f) (numC_R kb) (numC_R kc) w)
  have QL4 := Lib.hid (fun w => less_some (W_lt' a) (W_lt' b) (W_lt' e) (W_lt' f) (numC_R ka) (numC_R kc) w)
  have QA1 := Lib.hid (fun w => add_bnd (W_lt' a) (W_lt' b) (W_lt' c) (W_lt' d) (numC_R ka) (numC_R kb) w)
  have qa2 := fun w => add_bnd (W_lt' c) (W_lt' d) (W_lt' a) (W_lt' b) (numC_R kb) (numC_R ka) w
  rw [Int.add_comm c a, Int.add_comm d b] at qa2
  have QA2 := Lib.hid qa2
  have QM1 := Lib.hid (fun w => mul_bnd (W_lt' a) (W_lt' b) (W_lt' c) (W_lt' d) (numC_R ka) (numC_R kb) w)
  have qm2 := fun w => mul_bnd (W_lt' c) (W_lt' d) (W_lt' a) (W_lt' b) (numC_R kb) (numC_R ka) w
  rw [Int.mul_comm c a, Int.mul_comm d b, Int.mul_comm c b, Int.mul_comm d a, Int.add_comm (b * c)] at qm2
  have QM2 := Lib.hid qm2
  have QC1 := Lib.hid (fun w => conj_some (W_lt' a) (W_lt' b) (numC_R ka) w)
  have qc2 := fun w => conj_some (W_lt' a) (W_lt' (-b)) (numC_R (okR_neg ka)) w
  rw [Int.neg_neg] at qc2
  have QC2 := Lib.hid qc2
  have QC3 := Lib.hid (fun w => conj_some (W_lt' c) (W_lt' d) (numC_R kb) w)
  have qm3 := fun w => mul_bnd (W_lt' a) (W_lt' (-b)) (W_lt' c) (W_lt' (-d)) (numC_R (okR_neg ka)) (numC_R (okR_neg kb)) w
  rw [Int.neg_mul_neg, show a * -d + -b * c = -(a * d + b * c) from by rw [Int.mul_neg, Int.neg_mul]; omega] at qm3
  have heq : (FloatKind.f64.format.order (W a) (W c) == some Ordering.eq && FloatKind.f64.format.order (W b) (W d) == some Ordering.eq) = decide (a = c ∧ b = d) := by
    rw [ord_W_eq (okR_iff.1 ka).1 (okR_iff.1 kb).1, ord_W_eq (okR_iff.1 ka).2 (okR_iff.1 kb).2]; simp
  have f0 : lessB a b c d = true := by unfold lessB at *; simp at *; omega
  have f1 : lessB c d a b = false := by unfold lessB at *; simp at *; omega
  have f2 : lessB c d e f = false := by unfold lessB at *; simp at *; omega
  have fe : decide (a = c ∧ b = d) = false := by unfold lessB at *; simp at *; omega
  rw [fe] at heq
  rw [bnd_neg hk] at QM1 QM2
  rw [bnd_neg (okR_neg' hk)] at qm3
  have QC4 := Lib.hid (fun w => conj_some (W_lt' 0) (W_lt' 0) (numC_R (a := 0) (b := 0) rfl) w)
  rw [f0] at QL1
  rw [f1] at QL2
  rw [f2] at QL3
  have QM3 := Lib.hid qm3
  clear qm3 qa2 qm2 qc2 h1 h2 h3 hab hk ka kb kc fe f0 f1 f2
  go_enter Tryd.func6, Tryd.ntmps6
  go_wp2_with fail
  refine (awake_any _).mono ?_; rintro e w' ⟨rfl, rfl⟩
  go_wp2_with fail
  refine (QZ1.out _).mono ?_; rintro e w1 ⟨rfl, hb1⟩
  have K1 : Keep w [(w.heap.size + 1 + 1, 0, .int .i64 s), (w.heap.size + 1 + 1, 1, .int .i64 t), (w.heap.size + 1 + 1, 2, .bool raw3), (w.heap.size + 1, 0, .int .i64 u), (w.heap.size + 1, 1, .int .i64 v), (w.heap.size + 1, 2, .bool raw2), (w.heap.size, 0, .int .i64 x), (w.heap.size, 1, .int .i64 y), (w.heap.size, 2, .bool raw)] w1 := Keep.below hb1 (Keep.alloc3 (k := w.heap.size + 1 + 1) _ _ _ _ (by simp) (Keep.alloc3 (k := w.heap.size + 1) _ _ _ _ (by simp) (Keep.alloc3 (k := w.heap.size) _ _ _ _ (by simp) (Keep.start w))))
  clear hb1
  obtain ⟨⟨k0, z0, k1, z1, k2, z2, k3, z3, k4, z4, k5, z5, k6, z6, k7, z7, k8, z8, _⟩, hB⟩ := id K1
  clear hB
  go_wp2_with fail
  refine (QZ2.out _).mono ?_; rintro e w2 ⟨rfl, hb2⟩
  have K2 : Keep w [(w.heap.size + 1 + 1, 0, .int .i64 s), (w.heap.size + 1 + 1, 1, .int .i64 t), (w.heap.size + 1 + 1, 2, .bool raw3), (w.heap.size + 1, 0, .int .i64 u), (w.heap.size + 1, 1, .int .i64 v), (w.heap.size + 1, 2, .bool raw2), (w.heap.size, 0, .int .i64 x), (w.heap.size, 1, .int .i64 y), (w.heap.size, 2, .bool raw)] w2 := Keep.below hb2 K1
  clear hb2
  clear k0 z0 k1 z1 k2 z2 k3 z3 k4 z4 k5 z5 k6 z6 k7 z7 k8 z8
  obtain ⟨⟨k0, z0, k1, z1, k2, z2, k3, z3, k4, z4, k5, z5, k6, z6, k7, z7, k8, z8, _⟩, hB⟩ := id K2
  clear hB
  go_wp2_with fail
  refine (QZ3.out _).mono ?_; rintro e w3 ⟨rfl, hb3⟩
  have K3 : Keep w [(w.heap.size + 1 + 1, 0, .int .i64 s), (w.heap.size + 1 + 1, 1, .int .i64 t), (w.heap.size + 1 + 1, 2, .bool raw3), (w.heap.size + 1, 0, .int .i64 u), (w.heap.size + 1, 1, .int .i64 v), (w.heap.size + 1, 2, .bool raw2), (w.heap.size, 0, .int .i64 x), (w.heap.size, 1, .int .i64 y), (w.heap.size, 2, .bool raw)] w3 := Keep.below hb3 K2
  clear hb3
  clear k0 z0 k1 z1 k2 z2 k3 z3 k4 z4 k5 z5 k6 z6 k7 z7 k8 z8
  obtain ⟨⟨k0, z0, k1, z1, k2, z2, k3, z3, k4, z4, k5, z5, k6, z6, k7, z7, k8, z8, _⟩, hB⟩ := id K3
  clear hB
  go_wp2_with fail
  refine (QV1.out _).mono ?_; rintro e w' ⟨rfl, rfl⟩
  go_wp2_with fail
  refine (QV2.out _).mono ?_; rintro e w' ⟨rfl, rfl⟩
  go_wp2_with fail
  refine (QV3.out _).mono ?_; rintro e w' ⟨rfl, rfl⟩
  go_wp2_with fail
  refine (QL1.out _).mono ?_; rintro e w' ⟨rfl, rfl⟩
  go_wp2_with fail
  refine (QL2.out _).mono ?_; rintro e w' ⟨rfl, rfl⟩
  go_wp2_with fail
  refine (QL3.out _).mono ?_; rintro e w' ⟨rfl, rfl⟩
  go_wp2_with fail
  refine (QL4.out _).mono ?_; rintro e w' ⟨rfl, rfl⟩
  go_wp2_with fail
  refine (QA1.out _).mono ?_; rintro e w' ⟨rfl, rfl⟩
  go_wp2_with fail
  refine (QA2.out _).mono ?_; rintro e w' ⟨rfl, rfl⟩
  go_wp2_with fail
  refine (QM1.out _).mono ?_; rintro e w' ⟨rfl, rfl⟩
  go_wp2_with fail
  refine (QM2.out _).mono ?_; rintro e w' ⟨rfl, rfl⟩
  go_wp2_with fail
  refine (bits_self _ _ _).mono ?_; rintro e w' ⟨rfl, rfl⟩
  go_wp2_with fail
  refine (bits_self _ _ _).mono ?_; rintro e w' ⟨rfl, rfl⟩
  go_wp2_with fail
  refine (QC1.out _).mono ?_; rintro e w' ⟨rfl, rfl⟩
  go_wp2_with fail
  refine (QC2.out _).mono ?_; rintro e w' ⟨rfl, rfl⟩
  go_wp2_with fail
  refine (QC3.out _).mono ?_; rintro e w' ⟨rfl, rfl⟩
  go_wp2_with fail
  refine (QM3.out _).mono ?_; rintro e w' ⟨rfl, rfl⟩
  go_wp2_with fail
  refine (QC4.out _).mono ?_; rintro e w' ⟨rfl, rfl⟩
  go_wp2_with fail
  refine (bits_self _ _ _).mono ?_; rintro e w' ⟨rfl, rfl⟩
  go_wp2_with fail
  go_ret
  exact ⟨rfl, And.right K3⟩
set_option maxRecDepth 100000 in
set_option maxHeartbeats 4000000 in
theorem order_ok2y (x y : Int) (raw : Bool) (u v : Int) (raw2 : Bool) (s t : Int) (raw3 : Bool) (a b c d e f : Int) (h1 : numC (zw raw x) (zw raw y) = some (a, b)) (h2 : numC (zw raw2 u) (zw raw2 v) = some (c, d)) (h3 : numC (zw raw3 s) (zw raw3 t) = some (e, f)) (hab : lessB c d a b = true) (hk : okR (a * c - b * d) (a * d + b * c) = true) (w : World) :
    Calls Tryd.prog 6 #[.agg #[.int .i64 x, .int .i64 y, .bool raw], .agg #[.int .i64 u, .int .i64 v, .bool raw2], .agg #[.int .i64 s, .int .i64 t, .bool raw3]] w fun e w' => e = .returned (.bool true) ∧ Below w.heap.size w w' := by
  have QZ1 := Lib.hid (fun w => z_some h1 w); have QZ2 := Lib.hid (fun w => z_some h2 w); have QZ3 := Lib.hid (fun w => z_some h3 w)
  have ka := okR_of h1; have kb := okR_of h2; have kc := okR_of h3
  have QV1 := Lib.hid (fun w => valid_W ka w); have QV2 := Lib.hid (fun w => valid_W kb w); have QV3 := Lib.hid (fun w => valid_W kc w)
  have QL1 := Lib.hid (fun w => less_some (W_lt' a) (W_lt' b) (W_lt' c) (W_lt' d) (numC_R ka) (numC_R kb) w)
  have QL2 := Lib.hid (fun w => less_some (W_lt' c) (W_lt' d) (W_lt' a) (W_lt' b) (numC_R kb) (numC_R ka) w)
  have QL3 := Lib.hid (fun w => less_some (W_lt' c) (W_lt' d) (W_lt' e) (W_lt' f) (numC_R kb) (numC_R kc) w)
  have QL4 := Lib.hid (fun w => less_some (W_lt' a) (W_lt' b) (W_lt' e) (W_lt' f) (numC_R ka) (numC_R kc) w)
  have QA1 := Lib.hid (fun w => add_bnd (W_lt' a) (W_lt' b) (W_lt' c) (W_lt' d) (numC_R ka) (numC_R kb) w)
  have qa2 := fun w => add_bnd (W_lt' c) (W_lt' d) (W_lt' a) (W_lt' b) (numC_R kb) (numC_R ka) w
  rw [Int.add_comm c a, Int.add_comm d b] at qa2
  have QA2 := Lib.hid qa2
  have QM1 := Lib.hid (fun w => mul_bnd (W_lt' a) (W_lt' b) (W_lt' c) (W_lt' d) (numC_R ka) (numC_R kb) w)
  have qm2 := fun w => mul_bnd (W_lt' c) (W_lt' d) (W_lt' a) (W_lt' b) (numC_R kb) (numC_R ka) w
  rw [Int.mul_comm c a, Int.mul_comm d b, Int.mul_comm c b, Int.mul_comm d a, Int.add_comm (b * c)] at qm2
  have QM2 := Lib.hid qm2
  have QC1 := Lib.hid (fun w => conj_some (W_lt' a) (W_lt' b) (numC_R ka) w)
  have qc2 := fun w => conj_some (W_lt' a) (W_lt' (-b)) (numC_R (okR_neg ka)) w
  rw [Int.neg_neg] at qc2
  have QC2 := Lib.hid qc2
  have QC3 := Lib.hid (fun w => conj_some (W_lt' c) (W_lt' d) (numC_R kb) w)
  have qm3 := fun w => mul_bnd (W_lt' a) (W_lt' (-b)) (W_lt' c) (W_lt' (-d)) (numC_R (okR_neg ka)) (numC_R (okR_neg kb)) w
  rw [Int.neg_mul_neg, show a * -d + -b * c = -(a * d + b * c) from by rw [Int.mul_neg, Int.neg_mul]; omega] at qm3
  have heq : (FloatKind.f64.format.order (W a) (W c) == some Ordering.eq && FloatKind.f64.format.order (W b) (W d) == some Ordering.eq) = decide (a = c ∧ b = d) := by
    rw [ord_W_eq (okR_iff.1 ka).1 (okR_iff.1 kb).1, ord_W_eq (okR_iff.1 ka).2 (okR_iff.1 kb).2]; simp
  have f0 : lessB a b c d = false := by unfold lessB at *; simp at *; omega
  have f1 : lessB c d a b = true := by unfold lessB at *; simp at *; omega
  have fe : decide (a = c ∧ b = d) = false := by unfold lessB at *; simp at *; omega
  rw [fe] at heq
  rw [bnd_pos hk] at QM1 QM2
  rw [bnd_pos (okR_neg hk)] at qm3
  have QC4 := Lib.hid (fun w => conj_some (W_lt' _) (W_lt' _) (numC_R hk) w)
  rw [f0] at QL1
  rw [f1] at QL2
  have QM3 := Lib.hid qm3
  clear qm3 qa2 qm2 qc2 h1 h2 h3 hab hk ka kb kc fe f0 f1
  go_enter Tryd.func6, Tryd.ntmps6
  go_wp2_with fail
  refine (awake_any _).mono ?_; rintro e w' ⟨rfl, rfl⟩
  go_wp2_with fail
  refine (QZ1.out _).mono ?_; rintro e w1 ⟨rfl, hb1⟩
  have K1 : Keep w [(w.heap.size + 1 + 1, 0, .int .i64 s), (w.heap.size + 1 + 1, 1, .int .i64 t), (w.heap.size + 1 + 1, 2, .bool raw3), (w.heap.size + 1, 0, .int .i64 u), (w.heap.size + 1, 1, .int .i64 v), (w.heap.size + 1, 2, .bool raw2), (w.heap.size, 0, .int .i64 x), (w.heap.size, 1, .int .i64 y), (w.heap.size, 2, .bool raw)] w1 := Keep.below hb1 (Keep.alloc3 (k := w.heap.size + 1 + 1) _ _ _ _ (by simp) (Keep.alloc3 (k := w.heap.size + 1) _ _ _ _ (by simp) (Keep.alloc3 (k := w.heap.size) _ _ _ _ (by simp) (Keep.start w))))
  clear hb1
  obtain ⟨⟨k0, z0, k1, z1, k2, z2, k3, z3, k4, z4, k5, z5, k6, z6, k7, z7, k8, z8, _⟩, hB⟩ := id K1
  clear hB
  go_wp2_with fail
  refine (QZ2.out _).mono ?_; rintro e w2 ⟨rfl, hb2⟩
  have K2 : Keep w [(w.heap.size + 1 + 1, 0, .int .i64 s), (w.heap.size + 1 + 1, 1, .int .i64 t), (w.heap.size + 1 + 1, 2, .bool raw3), (w.heap.size + 1, 0, .int .i64 u), (w.heap.size + 1, 1, .int .i64 v), (w.heap.size + 1, 2, .bool raw2), (w.heap.size, 0, .int .i64 x), (w.heap.size, 1, .int .i64 y), (w.heap.size, 2, .bool raw)] w2 := Keep.below hb2 K1
  clear hb2
  clear k0 z0 k1 z1 k2 z2 k3 z3 k4 z4 k5 z5 k6 z6 k7 z7 k8 z8
  obtain ⟨⟨k0, z0, k1, z1, k2, z2, k3, z3, k4, z4, k5, z5, k6, z6, k7, z7, k8, z8, _⟩, hB⟩ := id K2
  clear hB
  go_wp2_with fail
  refine (QZ3.out _).mono ?_; rintro e w3 ⟨rfl, hb3⟩
  have K3 : Keep w [(w.heap.size + 1 + 1, 0, .int .i64 s), (w.heap.size + 1 + 1, 1, .int .i64 t), (w.heap.size + 1 + 1, 2, .bool raw3), (w.heap.size + 1, 0, .int .i64 u), (w.heap.size + 1, 1, .int .i64 v), (w.heap.size + 1, 2, .bool raw2), (w.heap.size, 0, .int .i64 x), (w.heap.size, 1, .int .i64 y), (w.heap.size, 2, .bool raw)] w3 := Keep.below hb3 K2
  clear hb3
  clear k0 z0 k1 z1 k2 z2 k3 z3 k4 z4 k5 z5 k6 z6 k7 z7 k8 z8
  obtain ⟨⟨k0, z0, k1, z1, k2, z2, k3, z3, k4, z4, k5, z5, k6, z6, k7, z7, k8, z8, _⟩, hB⟩ := id K3
  clear hB
  go_wp2_with fail
  refine (QV1.out _).mono ?_; rintro e w' ⟨rfl, rfl⟩
  go_wp2_with fail
  refine (QV2.out _).mono ?_; rintro e w' ⟨rfl, rfl⟩
  go_wp2_with fail
  refine (QV3.out _).mono ?_; rintro e w' ⟨rfl, rfl⟩
  go_wp2_with fail
  refine (QL1.out _).mono ?_; rintro e w' ⟨rfl, rfl⟩
  go_wp2_with fail
  refine (QL2.out _).mono ?_; rintro e w' ⟨rfl, rfl⟩
  go_wp2_with fail
  refine (QL3.out _).mono ?_; rintro e w' ⟨rfl, rfl⟩
  go_wp2_with fail
  refine (QL4.out _).mono ?_; rintro e w' ⟨rfl, rfl⟩
  go_wp2_with fail
  refine (QA1.out _).mono ?_; rintro e w' ⟨rfl, rfl⟩
  go_wp2_with fail
  refine (QA2.out _).mono ?_; rintro e w' ⟨rfl, rfl⟩
  go_wp2_with fail
  refine (QM1.out _).mono ?_; rintro e w' ⟨rfl, rfl⟩
  go_wp2_with fail
  refine (QM2.out _).mono ?_; rintro e w' ⟨rfl, rfl⟩
  go_wp2_with fail
  refine (bits_self _ _ _).mono ?_; rintro e w' ⟨rfl, rfl⟩
  go_wp2_with fail
  refine (bits_self _ _ _).mono ?_; rintro e w' ⟨rfl, rfl⟩
  go_wp2_with fail
  refine (QC1.out _).mono ?_; rintro e w' ⟨rfl, rfl⟩
  go_wp2_with fail
  refine (QC2.out _).mono ?_; rintro e w' ⟨rfl, rfl⟩
  go_wp2_with fail
  refine (QC3.out _).mono ?_; rintro e w' ⟨rfl, rfl⟩
  go_wp2_with fail
  refine (QM3.out _).mono ?_; rintro e w' ⟨rfl, rfl⟩
  go_wp2_with fail
  refine (QC4.out _).mono ?_; rintro e w' ⟨rfl, rfl⟩
  go_wp2_with fail
  refine (bits_self _ _ _).mono ?_; rintro e w' ⟨rfl, rfl⟩
  go_wp2_with fail
  refine (bits_self _ _ _).mono ?_; rintro e w' ⟨rfl, rfl⟩
  go_wp2_with fail
  go_ret
  exact ⟨rfl, And.right K3⟩
set_option maxRecDepth 100000 in
set_option maxHeartbeats 4000000 in
theorem order_ok2n (x y : Int) (raw : Bool) (u v : Int) (raw2 : Bool) (s t : Int) (raw3 : Bool) (a b c d e f : Int) (h1 : numC (zw raw x) (zw raw y) = some (a, b)) (h2 : numC (zw raw2 u) (zw raw2 v) = some (c, d)) (h3 : numC (zw raw3 s) (zw raw3 t) = some (e, f)) (hab : lessB c d a b = true) (hk : okR (a * c - b * d) (a * d + b * c) = false) (w : World) :
    Calls Tryd.prog 6 #[.agg #[.int .i64 x, .int .i64 y, .bool raw], .agg #[.int .i64 u, .int .i64 v, .bool raw2], .agg #[.int .i64 s, .int .i64 t, .bool raw3]] w fun e w' => e = .returned (.bool true) ∧ Below w.heap.size w w' := by
  have QZ1 := Lib.hid (fun w => z_some h1 w); have QZ2 := Lib.hid (fun w => z_some h2 w); have QZ3 := Lib.hid (fun w => z_some h3 w)
  have ka := okR_of h1; have kb := okR_of h2; have kc := okR_of h3
  have QV1 := Lib.hid (fun w => valid_W ka w); have QV2 := Lib.hid (fun w => valid_W kb w); have QV3 := Lib.hid (fun w => valid_W kc w)
  have QL1 := Lib.hid (fun w => less_some (W_lt' a) (W_lt' b) (W_lt' c) (W_lt' d) (numC_R ka) (numC_R kb) w)
  have QL2 := Lib.hid (fun w => less_some (W_lt' c) (W_lt' d) (W_lt' a) (W_lt' b) (numC_R kb) (numC_R ka) w)
  have QL3 := Lib.hid (fun w => less_some (W_lt' c) (W_lt' d) (W_lt' e) (W_lt' f) (numC_R kb) (numC_R kc) w)
  have QL4 := Lib.hid (fun w => less_some (W_lt' a) (W_lt' b) (W_lt' e) (W_lt' f) (numC_R ka) (numC_R kc) w)
  have QA1 := Lib.hid (fun w => add_bnd (W_lt' a) (W_lt' b) (W_lt' c) (W_lt' d) (numC_R ka) (numC_R kb) w)
  have qa2 := fun w => add_bnd (W_lt' c) (W_lt' d) (W_lt' a) (W_lt' b) (numC_R kb) (numC_R ka) w
  rw [Int.add_comm c a, Int.add_comm d b] at qa2
  have QA2 := Lib.hid qa2
  have QM1 := Lib.hid (fun w => mul_bnd (W_lt' a) (W_lt' b) (W_lt' c) (W_lt' d) (numC_R ka) (numC_R kb) w)
  have qm2 := fun w => mul_bnd (W_lt' c) (W_lt' d) (W_lt' a) (W_lt' b) (numC_R kb) (numC_R ka) w
  rw [Int.mul_comm c a, Int.mul_comm d b, Int.mul_comm c b, Int.mul_comm d a, Int.add_comm (b * c)] at qm2
  have QM2 := Lib.hid qm2
  have QC1 := Lib.hid (fun w => conj_some (W_lt' a) (W_lt' b) (numC_R ka) w)
  have qc2 := fun w => conj_some (W_lt' a) (W_lt' (-b)) (numC_R (okR_neg ka)) w
  rw [Int.neg_neg] at qc2
  have QC2 := Lib.hid qc2
  have QC3 := Lib.hid (fun w => conj_some (W_lt' c) (W_lt' d) (numC_R kb) w)
  have qm3 := fun w => mul_bnd (W_lt' a) (W_lt' (-b)) (W_lt' c) (W_lt' (-d)) (numC_R (okR_neg ka)) (numC_R (okR_neg kb)) w
  rw [Int.neg_mul_neg, show a * -d + -b * c = -(a * d + b * c) from by rw [Int.mul_neg, Int.neg_mul]; omega] at qm3
  have heq : (FloatKind.f64.format.order (W a) (W c) == some Ordering.eq && FloatKind.f64.format.order (W b) (W d) == some Ordering.eq) = decide (a = c ∧ b = d) := by
    rw [ord_W_eq (okR_iff.1 ka).1 (okR_iff.1 kb).1, ord_W_eq (okR_iff.1 ka).2 (okR_iff.1 kb).2]; simp
  have f0 : lessB a b c d = false := by unfold lessB at *; simp at *; omega
  have f1 : lessB c d a b = true := by unfold lessB at *; simp at *; omega
  have fe : decide (a = c ∧ b = d) = false := by unfold lessB at *; simp at *; omega
  rw [fe] at heq
  rw [bnd_neg hk] at QM1 QM2
  rw [bnd_neg (okR_neg' hk)] at qm3
  have QC4 := Lib.hid (fun w => conj_some (W_lt' 0) (W_lt' 0) (numC_R (a := 0) (b := 0) rfl) w)
  rw [f0] at QL1
  rw [f1] at QL2
  have QM3 := Lib.hid qm3
  clear qm3 qa2 qm2 qc2 h1 h2 h3 hab hk ka kb kc fe f0 f1
  go_enter Tryd.func6, Tryd.ntmps6
  go_wp2_with fail
  refine (awake_any _).mono ?_; rintro e w' ⟨rfl, rfl⟩
  go_wp2_with fail
  refine (QZ1.out _).mono ?_; rintro e w1 ⟨rfl, hb1⟩
  have K1 : Keep w [(w.heap.size + 1 + 1, 0, .int .i64 s), (w.heap.size + 1 + 1, 1, .int .i64 t), (w.heap.size + 1 + 1, 2, .bool raw3), (w.heap.size + 1, 0, .int .i64 u), (w.heap.size + 1, 1, .int .i64 v), (w.heap.size + 1, 2, .bool raw2), (w.heap.size, 0, .int .i64 x), (w.heap.size, 1, .int .i64 y), (w.heap.size, 2, .bool raw)] w1 := Keep.below hb1 (Keep.alloc3 (k := w.heap.size + 1 + 1) _ _ _ _ (by simp) (Keep.alloc3 (k := w.heap.size + 1) _ _ _ _ (by simp) (Keep.alloc3 (k := w.heap.size) _ _ _ _ (by simp) (Keep.start w))))
  clear hb1
  obtain ⟨⟨k0, z0, k1, z1, k2, z2, k3, z3, k4, z4, k5, z5, k6, z6, k7, z7, k8, z8, _⟩, hB⟩ := id K1
  clear hB
  go_wp2_with fail
  refine (QZ2.out _).mono ?_; rintro e w2 ⟨rfl, hb2⟩
  have K2 : Keep w [(w.heap.size + 1 + 1, 0, .int .i64 s), (w.heap.size + 1 + 1, 1, .int .i64 t), (w.heap.size + 1 + 1, 2, .bool raw3), (w.heap.size + 1, 0, .int .i64 u), (w.heap.size + 1, 1, .int .i64 v), (w.heap.size + 1, 2, .bool raw2), (w.heap.size, 0, .int .i64 x), (w.heap.size, 1, .int .i64 y), (w.heap.size, 2, .bool raw)] w2 := Keep.below hb2 K1
  clear hb2
  clear k0 z0 k1 z1 k2 z2 k3 z3 k4 z4 k5 z5 k6 z6 k7 z7 k8 z8
  obtain ⟨⟨k0, z0, k1, z1, k2, z2, k3, z3, k4, z4, k5, z5, k6, z6, k7, z7, k8, z8, _⟩, hB⟩ := id K2
  clear hB
  go_wp2_with fail
  refine (QZ3.out _).mono ?_; rintro e w3 ⟨rfl, hb3⟩
  have K3 : Keep w [(w.heap.size + 1 + 1, 0, .int .i64 s), (w.heap.size + 1 + 1, 1, .int .i64 t), (w.heap.size + 1 + 1, 2, .bool raw3), (w.heap.size + 1, 0, .int .i64 u), (w.heap.size + 1, 1, .int .i64 v), (w.heap.size + 1, 2, .bool raw2), (w.heap.size, 0, .int .i64 x), (w.heap.size, 1, .int .i64 y), (w.heap.size, 2, .bool raw)] w3 := Keep.below hb3 K2
  clear hb3
  clear k0 z0 k1 z1 k2 z2 k3 z3 k4 z4 k5 z5 k6 z6 k7 z7 k8 z8
  obtain ⟨⟨k0, z0, k1, z1, k2, z2, k3, z3, k4, z4, k5, z5, k6, z6, k7, z7, k8, z8, _⟩, hB⟩ := id K3
  clear hB
  go_wp2_with fail
  refine (QV1.out _).mono ?_; rintro e w' ⟨rfl, rfl⟩
  go_wp2_with fail
  refine (QV2.out _).mono ?_; rintro e w' ⟨rfl, rfl⟩
  go_wp2_with fail
  refine (QV3.out _).mono ?_; rintro e w' ⟨rfl, rfl⟩
  go_wp2_with fail
  refine (QL1.out _).mono ?_; rintro e w' ⟨rfl, rfl⟩
  go_wp2_with fail
  refine (QL2.out _).mono ?_; rintro e w' ⟨rfl, rfl⟩
  go_wp2_with fail
  refine (QL3.out _).mono ?_; rintro e w' ⟨rfl, rfl⟩
  go_wp2_with fail
  refine (QL4.out _).mono ?_; rintro e w' ⟨rfl, rfl⟩
  go_wp2_with fail
  refine (QA1.out _).mono ?_; rintro e w' ⟨rfl, rfl⟩
  go_wp2_with fail
  refine (QA2.out _).mono ?_; rintro e w' ⟨rfl, rfl⟩
  go_wp2_with fail
  refine (QM1.out _).mono ?_; rintro e w' ⟨rfl, rfl⟩
  go_wp2_with fail
  refine (QM2.out _).mono ?_; rintro e w' ⟨rfl, rfl⟩
  go_wp2_with fail
  refine (bits_self _ _ _).mono ?_; rintro e w' ⟨rfl, rfl⟩
  go_wp2_with fail
  refine (bits_self _ _ _).mono ?_; rintro e w' ⟨rfl, rfl⟩
  go_wp2_with fail
  refine (QC1.out _).mono ?_; rintro e w' ⟨rfl, rfl⟩
  go_wp2_with fail
  refine (QC2.out _).mono ?_; rintro e w' ⟨rfl, rfl⟩
  go_wp2_with fail
  refine (QC3.out _).mono ?_; rintro e w' ⟨rfl, rfl⟩
  go_wp2_with fail
  refine (QM3.out _).mono ?_; rintro e w' ⟨rfl, rfl⟩
  go_wp2_with fail
  refine (QC4.out _).mono ?_; rintro e w' ⟨rfl, rfl⟩
  go_wp2_with fail
  refine (bits_self _ _ _).mono ?_; rintro e w' ⟨rfl, rfl⟩
  go_wp2_with fail
  go_ret
  exact ⟨rfl, And.right K3⟩
set_option maxRecDepth 100000 in
set_option maxHeartbeats 4000000 in
theorem order_ok3y (x y : Int) (raw : Bool) (u v : Int) (raw2 : Bool) (s t : Int) (raw3 : Bool) (a b c d e f : Int) (h1 : numC (zw raw x) (zw raw y) = some (a, b)) (h2 : numC (zw raw2 u) (zw raw2 v) = some (c, d)) (h3 : numC (zw raw3 s) (zw raw3 t) = some (e, f)) (hab : a = c ∧ b = d) (hk : okR (a * c - b * d) (a * d + b * c) = true) (w : World) :
    Calls Tryd.prog 6 #[.agg #[.int .i64 x, .int .i64 y, .bool raw], .agg #[.int .i64 u, .int .i64 v, .bool raw2], .agg #[.int .i64 s, .int .i64 t, .bool raw3]] w fun e w' => e = .returned (.bool true) ∧ Below w.heap.size w w' := by
  have QZ1 := Lib.hid (fun w => z_some h1 w); have QZ2 := Lib.hid (fun w => z_some h2 w); have QZ3 := Lib.hid (fun w => z_some h3 w)
  have ka := okR_of h1; have kb := okR_of h2; have kc := okR_of h3
  have QV1 := Lib.hid (fun w => valid_W ka w); have QV2 := Lib.hid (fun w => valid_W kb w); have QV3 := Lib.hid (fun w => valid_W kc w)
  have QL1 := Lib.hid (fun w => less_some (W_lt' a) (W_lt' b) (W_lt' c) (W_lt' d) (numC_R ka) (numC_R kb) w)
  have QL2 := Lib.hid (fun w => less_some (W_lt' c) (W_lt' d) (W_lt' a) (W_lt' b) (numC_R kb) (numC_R ka) w)
  have QL3 := Lib.hid (fun w => less_some (W_lt' c) (W_lt' d) (W_lt' e) (W_lt' f) (numC_R kb) (numC_R kc) w)
  have QL4 := Lib.hid (fun w => less_some (W_lt' a) (W_lt' b) (W_lt' e) (W_lt' f) (numC_R ka) (numC_R kc) w)
  have QA1 := Lib.hid (fun w => add_bnd (W_lt' a) (W_lt' b) (W_lt' c) (W_lt' d) (numC_R ka) (numC_R kb) w)
  have qa2 := fun w => add_bnd (W_lt' c) (W_lt' d) (W_lt' a) (W_lt' b) (numC_R kb) (numC_R ka) w
  rw [Int.add_comm c a, Int.add_comm d b] at qa2
  have QA2 := Lib.hid qa2
  have QM1 := Lib.hid (fun w => mul_bnd (W_lt' a) (W_lt' b) (W_lt' c) (W_lt' d) (numC_R ka) (numC_R kb) w)
  have qm2 := fun w => mul_bnd (W_lt' c) (W_lt' d) (W_lt' a) (W_lt' b) (numC_R kb) (numC_R ka) w
  rw [Int.mul_comm c a, Int.mul_comm d b, Int.mul_comm c b, Int.mul_comm d a, Int.add_comm (b * c)] at qm2
  have QM2 := Lib.hid qm2
  have QC1 := Lib.hid (fun w => conj_some (W_lt' a) (W_lt' b) (numC_R ka) w)
  have qc2 := fun w => conj_some (W_lt' a) (W_lt' (-b)) (numC_R (okR_neg ka)) w
  rw [Int.neg_neg] at qc2
  have QC2 := Lib.hid qc2
  have QC3 := Lib.hid (fun w => conj_some (W_lt' c) (W_lt' d) (numC_R kb) w)
  have qm3 := fun w => mul_bnd (W_lt' a) (W_lt' (-b)) (W_lt' c) (W_lt' (-d)) (numC_R (okR_neg ka)) (numC_R (okR_neg kb)) w
  rw [Int.neg_mul_neg, show a * -d + -b * c = -(a * d + b * c) from by rw [Int.mul_neg, Int.neg_mul]; omega] at qm3
  have heq : (FloatKind.f64.format.order (W a) (W c) == some Ordering.eq && FloatKind.f64.format.order (W b) (W d) == some Ordering.eq) = decide (a = c ∧ b = d) := by
    rw [ord_W_eq (okR_iff.1 ka).1 (okR_iff.1 kb).1, ord_W_eq (okR_iff.1 ka).2 (okR_iff.1 kb).2]; simp
  have f0 : lessB a b c d = false := by unfold lessB at *; simp at *; omega
  have f1 : lessB c d a b = false := by unfold lessB at *; simp at *; omega
  have fe : decide (a = c ∧ b = d) = true := by unfold lessB at *; simp at *; omega
  rw [fe] at heq
  rw [bnd_pos hk] at QM1 QM2
  rw [bnd_pos (okR_neg hk)] at qm3
  have QC4 := Lib.hid (fun w => conj_some (W_lt' _) (W_lt' _) (numC_R hk) w)
  rw [f0] at QL1
  rw [f1] at QL2
  have QM3 := Lib.hid qm3
  clear qm3 qa2 qm2 qc2 h1 h2 h3 hab hk ka kb kc fe f0 f1
  go_enter Tryd.func6, Tryd.ntmps6
  go_wp2_with fail
  refine (awake_any _).mono ?_; rintro e w' ⟨rfl, rfl⟩
  go_wp2_with fail
  refine (QZ1.out _).mono ?_; rintro e w1 ⟨rfl, hb1⟩
  have K1 : Keep w [(w.heap.size + 1 + 1, 0, .int .i64 s), (w.heap.size + 1 + 1, 1, .int .i64 t), (w.heap.size + 1 + 1, 2, .bool raw3), (w.heap.size + 1, 0, .int .i64 u), (w.heap.size + 1, 1, .int .i64 v), (w.heap.size + 1, 2, .bool raw2), (w.heap.size, 0, .int .i64 x), (w.heap.size, 1, .int .i64 y), (w.heap.size, 2, .bool raw)] w1 := Keep.below hb1 (Keep.alloc3 (k := w.heap.size + 1 + 1) _ _ _ _ (by simp) (Keep.alloc3 (k := w.heap.size + 1) _ _ _ _ (by simp) (Keep.alloc3 (k := w.heap.size) _ _ _ _ (by simp) (Keep.start w))))
  clear hb1
  obtain ⟨⟨k0, z0, k1, z1, k2, z2, k3, z3, k4, z4, k5, z5, k6, z6, k7, z7, k8, z8, _⟩, hB⟩ := id K1
  clear hB
  go_wp2_with fail
  refine (QZ2.out _).mono ?_; rintro e w2 ⟨rfl, hb2⟩
  have K2 : Keep w [(w.heap.size + 1 + 1, 0, .int .i64 s), (w.heap.size + 1 + 1, 1, .int .i64 t), (w.heap.size + 1 + 1, 2, .bool raw3), (w.heap.size + 1, 0, .int .i64 u), (w.heap.size + 1, 1, .int .i64 v), (w.heap.size + 1, 2, .bool raw2), (w.heap.size, 0, .int .i64 x), (w.heap.size, 1, .int .i64 y), (w.heap.size, 2, .bool raw)] w2 := Keep.below hb2 K1
  clear hb2
  clear k0 z0 k1 z1 k2 z2 k3 z3 k4 z4 k5 z5 k6 z6 k7 z7 k8 z8
  obtain ⟨⟨k0, z0, k1, z1, k2, z2, k3, z3, k4, z4, k5, z5, k6, z6, k7, z7, k8, z8, _⟩, hB⟩ := id K2
  clear hB
  go_wp2_with fail
  refine (QZ3.out _).mono ?_; rintro e w3 ⟨rfl, hb3⟩
  have K3 : Keep w [(w.heap.size + 1 + 1, 0, .int .i64 s), (w.heap.size + 1 + 1, 1, .int .i64 t), (w.heap.size + 1 + 1, 2, .bool raw3), (w.heap.size + 1, 0, .int .i64 u), (w.heap.size + 1, 1, .int .i64 v), (w.heap.size + 1, 2, .bool raw2), (w.heap.size, 0, .int .i64 x), (w.heap.size, 1, .int .i64 y), (w.heap.size, 2, .bool raw)] w3 := Keep.below hb3 K2
  clear hb3
  clear k0 z0 k1 z1 k2 z2 k3 z3 k4 z4 k5 z5 k6 z6 k7 z7 k8 z8
  obtain ⟨⟨k0, z0, k1, z1, k2, z2, k3, z3, k4, z4, k5, z5, k6, z6, k7, z7, k8, z8, _⟩, hB⟩ := id K3
  clear hB
  go_wp2_with fail
  refine (QV1.out _).mono ?_; rintro e w' ⟨rfl, rfl⟩
  go_wp2_with fail
  refine (QV2.out _).mono ?_; rintro e w' ⟨rfl, rfl⟩
  go_wp2_with fail
  refine (QV3.out _).mono ?_; rintro e w' ⟨rfl, rfl⟩
  go_wp2_with fail
  refine (QL1.out _).mono ?_; rintro e w' ⟨rfl, rfl⟩
  go_wp2_with fail
  refine (QL2.out _).mono ?_; rintro e w' ⟨rfl, rfl⟩
  go_wp2_with fail
  refine (QL3.out _).mono ?_; rintro e w' ⟨rfl, rfl⟩
  go_wp2_with fail
  refine (QL4.out _).mono ?_; rintro e w' ⟨rfl, rfl⟩
  go_wp2_with fail
  refine (QA1.out _).mono ?_; rintro e w' ⟨rfl, rfl⟩
  go_wp2_with fail
  refine (QA2.out _).mono ?_; rintro e w' ⟨rfl, rfl⟩
  go_wp2_with fail
  refine (QM1.out _).mono ?_; rintro e w' ⟨rfl, rfl⟩
  go_wp2_with fail
  refine (QM2.out _).mono ?_; rintro e w' ⟨rfl, rfl⟩
  go_wp2_with fail
  refine (bits_self _ _ _).mono ?_; rintro e w' ⟨rfl, rfl⟩
  go_wp2_with fail
  refine (bits_self _ _ _).mono ?_; rintro e w' ⟨rfl, rfl⟩
  go_wp2_with fail
  refine (QC1.out _).mono ?_; rintro e w' ⟨rfl, rfl⟩
  go_wp2_with fail
  refine (QC2.out _).mono ?_; rintro e w' ⟨rfl, rfl⟩
  go_wp2_with fail
  refine (QC3.out _).mono ?_; rintro e w' ⟨rfl, rfl⟩
  go_wp2_with fail
  refine (QM3.out _).mono ?_; rintro e w' ⟨rfl, rfl⟩
  go_wp2_with fail
  refine (QC4.out _).mono ?_; rintro e w' ⟨rfl, rfl⟩
  go_wp2_with fail
  refine (bits_self _ _ _).mono ?_; rintro e w' ⟨rfl, rfl⟩
  go_wp2_with fail
  refine (bits_self _ _ _).mono ?_; rintro e w' ⟨rfl, rfl⟩
  go_wp2_with fail
  go_ret
  exact ⟨rfl, And.right K3⟩
set_option maxRecDepth 100000 in
set_option maxHeartbeats 4000000 in
theorem order_ok3n (x y : Int) (raw : Bool) (u v : Int) (raw2 : Bool) (s t : Int) (raw3 : Bool) (a b c d e f : Int) (h1 : numC (zw raw x) (zw raw y) = some (a, b)) (h2 : numC (zw raw2 u) (zw raw2 v) = some (c, d)) (h3 : numC (zw raw3 s) (zw raw3 t) = some (e, f)) (hab : a = c ∧ b = d) (hk : okR (a * c - b * d) (a * d + b * c) = false) (w : World) :
    Calls Tryd.prog 6 #[.agg #[.int .i64 x, .int .i64 y, .bool raw], .agg #[.int .i64 u, .int .i64 v, .bool raw2], .agg #[.int .i64 s, .int .i64 t, .bool raw3]] w fun e w' => e = .returned (.bool true) ∧ Below w.heap.size w w' := by
  have QZ1 := Lib.hid (fun w => z_some h1 w); have QZ2 := Lib.hid (fun w => z_some h2 w); have QZ3 := Lib.hid (fun w => z_some h3 w)
  have ka := okR_of h1; have kb := okR_of h2; have kc := okR_of h3
  have QV1 := Lib.hid (fun w => valid_W ka w); have QV2 := Lib.hid (fun w => valid_W kb w); have QV3 := Lib.hid (fun w => valid_W kc w)
  have QL1 := Lib.hid (fun w => less_some (W_lt' a) (W_lt' b) (W_lt' c) (W_lt' d) (numC_R ka) (numC_R kb) w)
  have QL2 := Lib.hid (fun w => less_some (W_lt' c) (W_lt' d) (W_lt' a) (W_lt' b) (numC_R kb) (numC_R ka) w)
  have QL3 := Lib.hid (fun w => less_some (W_lt' c) (W_lt' d) (W_lt' e) (W_lt' f) (numC_R kb) (numC_R kc) w)
  have QL4 := Lib.hid (fun w => less_some (W_lt' a) (W_lt' b) (W_lt' e) (W_lt' f) (numC_R ka) (numC_R kc) w)
  have QA1 := Lib.hid (fun w => add_bnd (W_lt' a) (W_lt' b) (W_lt' c) (W_lt' d) (numC_R ka) (numC_R kb) w)
  have qa2 := fun w => add_bnd (W_lt' c) (W_lt' d) (W_lt' a) (W_lt' b) (numC_R kb) (numC_R ka) w
  rw [Int.add_comm c a, Int.add_comm d b] at qa2
  have QA2 := Lib.hid qa2
  have QM1 := Lib.hid (fun w => mul_bnd (W_lt' a) (W_lt' b) (W_lt' c) (W_lt' d) (numC_R ka) (numC_R kb) w)
  have qm2 := fun w => mul_bnd (W_lt' c) (W_lt' d) (W_lt' a) (W_lt' b) (numC_R kb) (numC_R ka) w
  rw [Int.mul_comm c a, Int.mul_comm d b, Int.mul_comm c b, Int.mul_comm d a, Int.add_comm (b * c)] at qm2
  have QM2 := Lib.hid qm2
  have QC1 := Lib.hid (fun w => conj_some (W_lt' a) (W_lt' b) (numC_R ka) w)
  have qc2 := fun w => conj_some (W_lt' a) (W_lt' (-b)) (numC_R (okR_neg ka)) w
  rw [Int.neg_neg] at qc2
  have QC2 := Lib.hid qc2
  have QC3 := Lib.hid (fun w => conj_some (W_lt' c) (W_lt' d) (numC_R kb) w)
  have qm3 := fun w => mul_bnd (W_lt' a) (W_lt' (-b)) (W_lt' c) (W_lt' (-d)) (numC_R (okR_neg ka)) (numC_R (okR_neg kb)) w
  rw [Int.neg_mul_neg, show a * -d + -b * c = -(a * d + b * c) from by rw [Int.mul_neg, Int.neg_mul]; omega] at qm3
  have heq : (FloatKind.f64.format.order (W a) (W c) == some Ordering.eq && FloatKind.f64.format.order (W b) (W d) == some Ordering.eq) = decide (a = c ∧ b = d) := by
    rw [ord_W_eq (okR_iff.1 ka).1 (okR_iff.1 kb).1, ord_W_eq (okR_iff.1 ka).2 (okR_iff.1 kb).2]; simp
  have f0 : lessB a b c d = false := by unfold lessB at *; simp at *; omega
  have f1 : lessB c d a b = false := by unfold lessB at *; simp at *; omega
  have fe : decide (a = c ∧ b = d) = true := by unfold lessB at *; simp at *; omega
  rw [fe] at heq
  rw [bnd_neg hk] at QM1 QM2
  rw [bnd_neg (okR_neg' hk)] at qm3
  have QC4 := Lib.hid (fun w => conj_some (W_lt' 0) (W_lt' 0) (numC_R (a := 0) (b := 0) rfl) w)
  rw [f0] at QL1
  rw [f1] at QL2
  have QM3 := Lib.hid qm3
  clear qm3 qa2 qm2 qc2 h1 h2 h3 hab hk ka kb kc fe f0 f1
  go_enter Tryd.func6, Tryd.ntmps6
  go_wp2_with fail
  refine (awake_any _).mono ?_; rintro e w' ⟨rfl, rfl⟩
  go_wp2_with fail
  refine (QZ1.out _).mono ?_; rintro e w1 ⟨rfl, hb1⟩
  have K1 : Keep w [(w.heap.size + 1 + 1, 0, .int .i64 s), (w.heap.size + 1 + 1, 1, .int .i64 t), (w.heap.size + 1 + 1, 2, .bool raw3), (w.heap.size + 1, 0, .int .i64 u), (w.heap.size + 1, 1, .int .i64 v), (w.heap.size + 1, 2, .bool raw2), (w.heap.size, 0, .int .i64 x), (w.heap.size, 1, .int .i64 y), (w.heap.size, 2, .bool raw)] w1 := Keep.below hb1 (Keep.alloc3 (k := w.heap.size + 1 + 1) _ _ _ _ (by simp) (Keep.alloc3 (k := w.heap.size + 1) _ _ _ _ (by simp) (Keep.alloc3 (k := w.heap.size) _ _ _ _ (by simp) (Keep.start w))))
  clear hb1
  obtain ⟨⟨k0, z0, k1, z1, k2, z2, k3, z3, k4, z4, k5, z5, k6, z6, k7, z7, k8, z8, _⟩, hB⟩ := id K1
  clear hB
  go_wp2_with fail
  refine (QZ2.out _).mono ?_; rintro e w2 ⟨rfl, hb2⟩
  have K2 : Keep w [(w.heap.size + 1 + 1, 0, .int .i64 s), (w.heap.size + 1 + 1, 1, .int .i64 t), (w.heap.size + 1 + 1, 2, .bool raw3), (w.heap.size + 1, 0, .int .i64 u), (w.heap.size + 1, 1, .int .i64 v), (w.heap.size + 1, 2, .bool raw2), (w.heap.size, 0, .int .i64 x), (w.heap.size, 1, .int .i64 y), (w.heap.size, 2, .bool raw)] w2 := Keep.below hb2 K1
  clear hb2
  clear k0 z0 k1 z1 k2 z2 k3 z3 k4 z4 k5 z5 k6 z6 k7 z7 k8 z8
  obtain ⟨⟨k0, z0, k1, z1, k2, z2, k3, z3, k4, z4, k5, z5, k6, z6, k7, z7, k8, z8, _⟩, hB⟩ := id K2
  clear hB
  go_wp2_with fail
  refine (QZ3.out _).mono ?_; rintro e w3 ⟨rfl, hb3⟩
  have K3 : Keep w [(w.heap.size + 1 + 1, 0, .int .i64 s), (w.heap.size + 1 + 1, 1, .int .i64 t), (w.heap.size + 1 + 1, 2, .bool raw3), (w.heap.size + 1, 0, .int .i64 u), (w.heap.size + 1, 1, .int .i64 v), (w.heap.size + 1, 2, .bool raw2), (w.heap.size, 0, .int .i64 x), (w.heap.size, 1, .int .i64 y), (w.heap.size, 2, .bool raw)] w3 := Keep.below hb3 K2
  clear hb3
  clear k0 z0 k1 z1 k2 z2 k3 z3 k4 z4 k5 z5 k6 z6 k7 z7 k8 z8
  obtain ⟨⟨k0, z0, k1, z1, k2, z2, k3, z3, k4, z4, k5, z5, k6, z6, k7, z7, k8, z8, _⟩, hB⟩ := id K3
  clear hB
  go_wp2_with fail
  refine (QV1.out _).mono ?_; rintro e w' ⟨rfl, rfl⟩
  go_wp2_with fail
  refine (QV2.out _).mono ?_; rintro e w' ⟨rfl, rfl⟩
  go_wp2_with fail
  refine (QV3.out _).mono ?_; rintro e w' ⟨rfl, rfl⟩
  go_wp2_with fail
  refine (QL1.out _).mono ?_; rintro e w' ⟨rfl, rfl⟩
  go_wp2_with fail
  refine (QL2.out _).mono ?_; rintro e w' ⟨rfl, rfl⟩
  go_wp2_with fail
  refine (QL3.out _).mono ?_; rintro e w' ⟨rfl, rfl⟩
  go_wp2_with fail
  refine (QL4.out _).mono ?_; rintro e w' ⟨rfl, rfl⟩
  go_wp2_with fail
  refine (QA1.out _).mono ?_; rintro e w' ⟨rfl, rfl⟩
  go_wp2_with fail
  refine (QA2.out _).mono ?_; rintro e w' ⟨rfl, rfl⟩
  go_wp2_with fail
  refine (QM1.out _).mono ?_; rintro e w' ⟨rfl, rfl⟩
  go_wp2_with fail
  refine (QM2.out _).mono ?_; rintro e w' ⟨rfl, rfl⟩
  go_wp2_with fail
  refine (bits_self _ _ _).mono ?_; rintro e w' ⟨rfl, rfl⟩
  go_wp2_with fail
  refine (bits_self _ _ _).mono ?_; rintro e w' ⟨rfl, rfl⟩
  go_wp2_with fail
  refine (QC1.out _).mono ?_; rintro e w' ⟨rfl, rfl⟩
  go_wp2_with fail
  refine (QC2.out _).mono ?_; rintro e w' ⟨rfl, rfl⟩
  go_wp2_with fail
  refine (QC3.out _).mono ?_; rintro e w' ⟨rfl, rfl⟩
  go_wp2_with fail
  refine (QM3.out _).mono ?_; rintro e w' ⟨rfl, rfl⟩
  go_wp2_with fail
  refine (QC4.out _).mono ?_; rintro e w' ⟨rfl, rfl⟩
  go_wp2_with fail
  refine (bits_self _ _ _).mono ?_; rintro e w' ⟨rfl, rfl⟩
  go_wp2_with fail
  go_ret
  exact ⟨rfl, And.right K3⟩
theorem order_any (x y : Int) (raw : Bool) (u v : Int) (raw2 : Bool) (s t : Int) (raw3 : Bool) (w : World) :
    Calls Tryd.prog 6 #[.agg #[.int .i64 x, .int .i64 y, .bool raw], .agg #[.int .i64 u, .int .i64 v, .bool raw2], .agg #[.int .i64 s, .int .i64 t, .bool raw3]] w fun e w' => e = .returned (.bool true) ∧ Below w.heap.size w w' := by
  cases h1 : numC (zw raw x) (zw raw y) with
  | none => exact order_bad1 x y raw u v raw2 s t raw3 h1 w
  | some p => cases h2 : numC (zw raw2 u) (zw raw2 v) with
              | none => exact order_bad2 x y raw u v raw2 s t raw3 (by rw [h1]; rfl) h2 w
              | some q => cases h3 : numC (zw raw3 s) (zw raw3 t) with
                          | none => exact order_bad3 x y raw u v raw2 s t raw3 (by rw [h1]; rfl) (by rw [h2]; rfl) h3 w
                          | some r =>
                            obtain ⟨a, b⟩ := p; obtain ⟨c, d⟩ := q; obtain ⟨e, f⟩ := r
                            have tri : lessB a b c d = true ∨ lessB c d a b = true ∨ (a = c ∧ b = d) := by unfold lessB; simp; omega
                            cases hk : okR (a * c - b * d) (a * d + b * c)
                            · rcases tri with h | h | h
                              · cases hb : lessB c d e f
                                · exact order_ok1n x y raw u v raw2 s t raw3 a b c d e f h1 h2 h3 ⟨h, hb⟩ hk w
                                · exact order_ok0n x y raw u v raw2 s t raw3 a b c d e f h1 h2 h3 ⟨h, hb⟩ hk w
                              · exact order_ok2n x y raw u v raw2 s t raw3 a b c d e f h1 h2 h3 h hk w
                              · exact order_ok3n x y raw u v raw2 s t raw3 a b c d e f h1 h2 h3 h hk w
                            · rcases tri with h | h | h
                              · cases hb : lessB c d e f
                                · exact order_ok1y x y raw u v raw2 s t raw3 a b c d e f h1 h2 h3 ⟨h, hb⟩ hk w
                                · exact order_ok0y x y raw u v raw2 s t raw3 a b c d e f h1 h2 h3 ⟨h, hb⟩ hk w
                              · exact order_ok2y x y raw u v raw2 s t raw3 a b c d e f h1 h2 h3 h hk w
                              · exact order_ok3y x y raw u v raw2 s t raw3 a b c d e f h1 h2 h3 h hk w
end Go.Proofs.YtipcjffbjkpmbaaDoor

