/- The walk of GaussQuos: whatever the arguments, true. -/
import Derived.Test.YtipcjffbjkpmbaaDoorLSums
namespace Go.Proofs.YtipcjffbjkpmbaaDoor
open Go.RowKit Flo
theorem conj_none {p q : Nat} (ha : p < 18446744073709551616) (hb : q < 18446744073709551616) (h : numC p q = none) (w : World) :
    Calls Tryd.prog 27 #[.complex .f64 p q] w fun e w' => e = .returned (.tuple #[.complex .f64 0 0, .int .i64 3]) ∧ w = w' := by
  have qq := conj_any p q ha hb w
  rw [h, show gConj none = shp from rfl] at qq; unfold shp at qq; simp only [W0] at qq; exact qq
theorem conj_some {p q : Nat} {a b : Int} (ha : p < 18446744073709551616) (hb : q < 18446744073709551616) (h : numC p q = some (a, b)) (w : World) :
    Calls Tryd.prog 27 #[.complex .f64 p q] w fun e w' => e = .returned (.tuple #[.complex .f64 (W a) (W (-b)), .int .i64 0]) ∧ w = w' := by
  have qq := conj_any p q ha hb w
  rw [h] at qq; exact qq
theorem quo_shp {p q r s : Nat} (ha : p < 18446744073709551616) (hb : q < 18446744073709551616) (hc : r < 18446744073709551616) (hd : s < 18446744073709551616) (h : numC p q = none ∨ numC r s = none) (w : World) :
    Calls Tryd.prog 28 #[.complex .f64 p q, .complex .f64 r s] w fun e w' => e = .returned (.tuple #[.complex .f64 0 0, .int .i64 3]) ∧ w = w' := by
  have qq := quo_any p q r s ha hb hc hd w
  have e : gQuo (numC p q) (numC r s) = shp := by
    rcases h with h | h <;> rw [h]
    · rfl
    · cases numC p q <;> rfl
  rw [e] at qq; unfold shp at qq; simp only [W0] at qq; exact qq
theorem quo_some {p q r s : Nat} {a b c d : Int} (ha : p < 18446744073709551616) (hb : q < 18446744073709551616) (hc : r < 18446744073709551616) (hd : s < 18446744073709551616) (h : numC p q = some (a, b)) (h2 : numC r s = some (c, d)) (w : World) :
    Calls Tryd.prog 28 #[.complex .f64 p q, .complex .f64 r s] w fun e w' => e = .returned (.tuple #[.complex .f64 (W (quo a b c d).1.1) (W (quo a b c d).1.2), .int .i64 (quo a b c d).2]) ∧ w = w' := by
  have qq := quo_any p q r s ha hb hc hd w
  rw [h, h2] at qq; exact qq
theorem less_shp {p q r s : Nat} (ha : p < 18446744073709551616) (hb : q < 18446744073709551616) (hc : r < 18446744073709551616) (hd : s < 18446744073709551616) (h : numC p q = none ∨ numC r s = none) (w : World) :
    Calls Tryd.prog 26 #[.complex .f64 p q, .complex .f64 r s] w fun e w' => e = .returned (.tuple #[.bool false, .int .i64 3]) ∧ w = w' := by
  have qq := less_any p q r s ha hb hc hd w
  have e : gLess (numC p q) (numC r s) = (false, 3) := by
    rcases h with h | h <;> rw [h]
    · rfl
    · cases numC p q <;> rfl
  rw [e] at qq; exact qq
theorem less_some {p q r s : Nat} {a b c d : Int} (ha : p < 18446744073709551616) (hb : q < 18446744073709551616) (hc : r < 18446744073709551616) (hd : s < 18446744073709551616) (h : numC p q = some (a, b)) (h2 : numC r s = some (c, d)) (w : World) :
    Calls Tryd.prog 26 #[.complex .f64 p q, .complex .f64 r s] w fun e w' => e = .returned (.tuple #[.bool (lessB a b c d), .int .i64 0]) ∧ w = w' := by
  have qq := less_any p q r s ha hb hc hd w
  rw [h, h2] at qq; exact qq
set_option maxRecDepth 100000 in
set_option maxHeartbeats 4000000 in
theorem quos_nn (x y : Int) (raw : Bool) (u v : Int) (raw2 : Bool) (h : numC (zw raw x) (zw raw y) = none) (h2 : numC (zw raw2 u) (zw raw2 v) = none) (w : World) :
    Calls Tryd.prog 8 #[.agg #[.int .i64 x, .int .i64 y, .bool raw], .agg #[.int .i64 u, .int .i64 v, .bool raw2]] w fun e w' => e = .returned (.bool true) ∧ Below w.heap.size w w' := by
  have QO := Lib.hid (fun w => of_none (zw_lt raw x) (zw_lt raw y) h w)
  have QO2 := Lib.hid (fun w => of_none (zw_lt raw2 u) (zw_lt raw2 v) h2 w)
  have QC := Lib.hid (fun w => conj_none (zw_lt raw x) (zw_lt raw y) h w)
  have QQ := Lib.hid (fun w => quo_shp (zw_lt raw x) (zw_lt raw y) (zw_lt raw2 u) (zw_lt raw2 v) (.inl h) w)
  have QL := Lib.hid (fun w => less_shp (zw_lt raw x) (zw_lt raw y) (zw_lt raw2 u) (zw_lt raw2 v) (.inl h) w)
  have QH := Lib.hid (fun w => shapeless_yes w)
  clear h h2
  go_enter Tryd.func8, Tryd.ntmps8
  go_wp2_with fail
  refine (awake_any _).mono ?_; rintro e w' ⟨rfl, rfl⟩
  go_wp2_with fail
  refine (z_any _ _ _ _).mono ?_; rintro e w1 ⟨rfl, hb1⟩
  have K1 : Keep w [(w.heap.size + 1, 0, .int .i64 u), (w.heap.size + 1, 1, .int .i64 v), (w.heap.size + 1, 2, .bool raw2), (w.heap.size, 0, .int .i64 x), (w.heap.size, 1, .int .i64 y), (w.heap.size, 2, .bool raw)] w1 := Keep.below hb1 (Keep.alloc3 (k := w.heap.size + 1) _ _ _ _ (by simp) (Keep.alloc3 (k := w.heap.size) _ _ _ _ (by simp) (Keep.start w)))
  clear hb1
  obtain ⟨⟨k0, z0, k1, z1, k2, z2, k3, z3, k4, z4, k5, z5, _⟩, hB⟩ := id K1
  clear hB
  go_wp2_with fail
  refine (QO.out _).mono ?_; rintro e w2 ⟨rfl, hb2⟩
  have K2 : Keep w [(w.heap.size + 1, 0, .int .i64 u), (w.heap.size + 1, 1, .int .i64 v), (w.heap.size + 1, 2, .bool raw2), (w.heap.size, 0, .int .i64 x), (w.heap.size, 1, .int .i64 y), (w.heap.size, 2, .bool raw)] w2 := Keep.below hb2 K1
  clear hb2
  clear k0 z0 k1 z1 k2 z2 k3 z3 k4 z4 k5 z5
  obtain ⟨⟨k0, z0, k1, z1, k2, z2, k3, z3, k4, z4, k5, z5, _⟩, hB⟩ := id K2
  clear hB
  go_wp2_with fail
  refine (z_any _ _ _ _).mono ?_; rintro e w3 ⟨rfl, hb3⟩
  have K3 : Keep w [(w2.heap.size, 0, .int .i64 0), (w2.heap.size, 1, .int .i64 0), (w.heap.size + 1, 0, .int .i64 u), (w.heap.size + 1, 1, .int .i64 v), (w.heap.size + 1, 2, .bool raw2), (w.heap.size, 0, .int .i64 x), (w.heap.size, 1, .int .i64 y), (w.heap.size, 2, .bool raw)] w3 := Keep.below hb3 (Keep.alloc2 (k := w2.heap.size) _ _ 32 (by simp) K2)
  clear hb3
  clear k0 z0 k1 z1 k2 z2 k3 z3 k4 z4 k5 z5
  obtain ⟨⟨k0, z0, k1, z1, k2, z2, k3, z3, k4, z4, k5, z5, k6, z6, k7, z7, _⟩, hB⟩ := id K3
  clear hB
  go_wp2_with fail
  refine (QO2.out _).mono ?_; rintro e w4 ⟨rfl, hb4⟩
  have K4 : Keep w [(w2.heap.size, 0, .int .i64 0), (w2.heap.size, 1, .int .i64 0), (w.heap.size + 1, 0, .int .i64 u), (w.heap.size + 1, 1, .int .i64 v), (w.heap.size + 1, 2, .bool raw2), (w.heap.size, 0, .int .i64 x), (w.heap.size, 1, .int .i64 y), (w.heap.size, 2, .bool raw)] w4 := Keep.below hb4 K3
  clear hb4
  clear k0 z0 k1 z1 k2 z2 k3 z3 k4 z4 k5 z5 k6 z6 k7 z7
  obtain ⟨⟨k0, z0, k1, z1, k2, z2, k3, z3, k4, z4, k5, z5, k6, z6, k7, z7, _⟩, hB⟩ := id K4
  clear hB
  go_wp2_with fail
  have J5 : Keep w [(w4.heap.size, 0, .int .i64 0), (w4.heap.size, 1, .int .i64 0), (w2.heap.size, 0, .int .i64 0), (w2.heap.size, 1, .int .i64 0), (w.heap.size + 1, 0, .int .i64 u), (w.heap.size + 1, 1, .int .i64 v), (w.heap.size + 1, 2, .bool raw2), (w.heap.size, 0, .int .i64 x), (w.heap.size, 1, .int .i64 y), (w.heap.size, 2, .bool raw)] _ := Keep.drew (Keep.alloc2 (k := w4.heap.size) _ _ 32 (by simp) K4)
  have sx : ∀ X, Keep w [(w4.heap.size, 0, .int .i64 0), (w4.heap.size, 1, .int .i64 0), (w2.heap.size, 0, .int .i64 0), (w2.heap.size, 1, .int .i64 0), (w.heap.size + 1, 0, .int .i64 u), (w.heap.size + 1, 1, .int .i64 v), (w.heap.size + 1, 2, .bool raw2), (w.heap.size, 0, .int .i64 x), (w.heap.size, 1, .int .i64 y), (w.heap.size, 2, .bool raw)] X → (fun w' => w'.cell? ⟨w.heap.size, 0, none⟩ = some (.int .i64 x) ∧ w'.cell? ⟨w.heap.size, 1, none⟩ = some (.int .i64 y) ∧ w'.cell? ⟨w.heap.size, 2, none⟩ = some (.bool raw) ∧ w'.cell? ⟨w.heap.size + 1, 0, none⟩ = some (.int .i64 u) ∧ w'.cell? ⟨w.heap.size + 1, 1, none⟩ = some (.int .i64 v) ∧ w'.cell? ⟨w.heap.size + 1, 2, none⟩ = some (.bool raw2) ∧ Keep w [(w4.heap.size, 0, .int .i64 0), (w4.heap.size, 1, .int .i64 0), (w2.heap.size, 0, .int .i64 0), (w2.heap.size, 1, .int .i64 0), (w.heap.size + 1, 0, .int .i64 u), (w.heap.size + 1, 1, .int .i64 v), (w.heap.size + 1, 2, .bool raw2), (w.heap.size, 0, .int .i64 x), (w.heap.size, 1, .int .i64 y), (w.heap.size, 2, .bool raw)] w') X := by
    intro X hX
    obtain ⟨⟨q0, y0, q1, y1, q2, y2, q3, y3, q4, y4, q5, y5, q6, y6, q7, y7, q8, y8, q9, y9, _⟩, hB⟩ := id hX
    exact ⟨q7, q8, q9, q4, q5, q6, hX⟩
  go_region_held3 (fun w' => w'.cell? ⟨w.heap.size, 0, none⟩ = some (.int .i64 x) ∧ w'.cell? ⟨w.heap.size, 1, none⟩ = some (.int .i64 y) ∧ w'.cell? ⟨w.heap.size, 2, none⟩ = some (.bool raw) ∧ w'.cell? ⟨w.heap.size + 1, 0, none⟩ = some (.int .i64 u) ∧ w'.cell? ⟨w.heap.size + 1, 1, none⟩ = some (.int .i64 v) ∧ w'.cell? ⟨w.heap.size + 1, 2, none⟩ = some (.bool raw2) ∧ Keep w [(w4.heap.size, 0, .int .i64 0), (w4.heap.size, 1, .int .i64 0), (w2.heap.size, 0, .int .i64 0), (w2.heap.size, 1, .int .i64 0), (w.heap.size + 1, 0, .int .i64 u), (w.heap.size + 1, 1, .int .i64 v), (w.heap.size + 1, 2, .bool raw2), (w.heap.size, 0, .int .i64 x), (w.heap.size, 1, .int .i64 y), (w.heap.size, 2, .bool raw)] w') (first | exact sx _ K5 | exact sx _ J5)
    (first | (go_at_call 15; refine (z_any _ _ _ _).mono ?_; rintro e w5 ⟨rfl, hb5⟩; have K5 : Keep w [(w4.heap.size, 0, .int .i64 0), (w4.heap.size, 1, .int .i64 0), (w2.heap.size, 0, .int .i64 0), (w2.heap.size, 1, .int .i64 0), (w.heap.size + 1, 0, .int .i64 u), (w.heap.size + 1, 1, .int .i64 v), (w.heap.size + 1, 2, .bool raw2), (w.heap.size, 0, .int .i64 x), (w.heap.size, 1, .int .i64 y), (w.heap.size, 2, .bool raw)] w5 := Keep.below hb5 (And.right (And.right (And.right (And.right (And.right (And.right (by assumption)))))))) | (go_at_call 28; refine (QQ.out _).mono ?_; rintro e w' ⟨rfl, rfl⟩))
  clear J5 sx
  clear k0 z0 k1 z1 k2 z2 k3 z3 k4 z4 k5 z5 k6 z6 k7 z7
  obtain ⟨⟨k0, z0, k1, z1, k2, z2, k3, z3, k4, z4, k5, z5, k6, z6, k7, z7, k8, z8, k9, z9, _⟩, hB⟩ := id K5
  clear hB
  go_wp2_with fail
  refine (z_any _ _ _ _).mono ?_; rintro e w6 ⟨rfl, hb6⟩
  have K6 : Keep w [(w4.heap.size, 0, .int .i64 0), (w4.heap.size, 1, .int .i64 0), (w2.heap.size, 0, .int .i64 0), (w2.heap.size, 1, .int .i64 0), (w.heap.size + 1, 0, .int .i64 u), (w.heap.size + 1, 1, .int .i64 v), (w.heap.size + 1, 2, .bool raw2), (w.heap.size, 0, .int .i64 x), (w.heap.size, 1, .int .i64 y), (w.heap.size, 2, .bool raw)] w6 := Keep.below hb6 K5
  clear hb6
  clear k0 z0 k1 z1 k2 z2 k3 z3 k4 z4 k5 z5 k6 z6 k7 z7 k8 z8 k9 z9
  obtain ⟨⟨k0, z0, k1, z1, k2, z2, k3, z3, k4, z4, k5, z5, k6, z6, k7, z7, k8, z8, k9, z9, _⟩, hB⟩ := id K6
  clear hB
  go_wp2_with fail
  refine (QC.out _).mono ?_; rintro e w' ⟨rfl, rfl⟩
  go_wp2_with fail
  have J7 : Keep w [(w4.heap.size, 0, .int .i64 0), (w4.heap.size, 1, .int .i64 0), (w2.heap.size, 0, .int .i64 0), (w2.heap.size, 1, .int .i64 0), (w.heap.size + 1, 0, .int .i64 u), (w.heap.size + 1, 1, .int .i64 v), (w.heap.size + 1, 2, .bool raw2), (w.heap.size, 0, .int .i64 x), (w.heap.size, 1, .int .i64 y), (w.heap.size, 2, .bool raw)] _ := Keep.drew K6
  have sx : ∀ X, Keep w [(w4.heap.size, 0, .int .i64 0), (w4.heap.size, 1, .int .i64 0), (w2.heap.size, 0, .int .i64 0), (w2.heap.size, 1, .int .i64 0), (w.heap.size + 1, 0, .int .i64 u), (w.heap.size + 1, 1, .int .i64 v), (w.heap.size + 1, 2, .bool raw2), (w.heap.size, 0, .int .i64 x), (w.heap.size, 1, .int .i64 y), (w.heap.size, 2, .bool raw)] X → (fun w' => w'.cell? ⟨w.heap.size, 0, none⟩ = some (.int .i64 x) ∧ w'.cell? ⟨w.heap.size, 1, none⟩ = some (.int .i64 y) ∧ w'.cell? ⟨w.heap.size, 2, none⟩ = some (.bool raw) ∧ w'.cell? ⟨w.heap.size + 1, 0, none⟩ = some (.int .i64 u) ∧ w'.cell? ⟨w.heap.size + 1, 1, none⟩ = some (.int .i64 v) ∧ w'.cell? ⟨w.heap.size + 1, 2, none⟩ = some (.bool raw2) ∧ Keep w [(w4.heap.size, 0, .int .i64 0), (w4.heap.size, 1, .int .i64 0), (w2.heap.size, 0, .int .i64 0), (w2.heap.size, 1, .int .i64 0), (w.heap.size + 1, 0, .int .i64 u), (w.heap.size + 1, 1, .int .i64 v), (w.heap.size + 1, 2, .bool raw2), (w.heap.size, 0, .int .i64 x), (w.heap.size, 1, .int .i64 y), (w.heap.size, 2, .bool raw)] w') X := by
    intro X hX
    obtain ⟨⟨q0, y0, q1, y1, q2, y2, q3, y3, q4, y4, q5, y5, q6, y6, q7, y7, q8, y8, q9, y9, _⟩, hB⟩ := id hX
    exact ⟨q7, q8, q9, q4, q5, q6, hX⟩
  go_region_held3 (fun w' => w'.cell? ⟨w.heap.size, 0, none⟩ = some (.int .i64 x) ∧ w'.cell? ⟨w.heap.size, 1, none⟩ = some (.int .i64 y) ∧ w'.cell? ⟨w.heap.size, 2, none⟩ = some (.bool raw) ∧ w'.cell? ⟨w.heap.size + 1, 0, none⟩ = some (.int .i64 u) ∧ w'.cell? ⟨w.heap.size + 1, 1, none⟩ = some (.int .i64 v) ∧ w'.cell? ⟨w.heap.size + 1, 2, none⟩ = some (.bool raw2) ∧ Keep w [(w4.heap.size, 0, .int .i64 0), (w4.heap.size, 1, .int .i64 0), (w2.heap.size, 0, .int .i64 0), (w2.heap.size, 1, .int .i64 0), (w.heap.size + 1, 0, .int .i64 u), (w.heap.size + 1, 1, .int .i64 v), (w.heap.size + 1, 2, .bool raw2), (w.heap.size, 0, .int .i64 x), (w.heap.size, 1, .int .i64 y), (w.heap.size, 2, .bool raw)] w') (first | exact sx _ K7 | exact sx _ J7)
    (first | (go_at_call 15; refine (z_any _ _ _ _).mono ?_; rintro e w7 ⟨rfl, hb7⟩; have K7 : Keep w [(w4.heap.size, 0, .int .i64 0), (w4.heap.size, 1, .int .i64 0), (w2.heap.size, 0, .int .i64 0), (w2.heap.size, 1, .int .i64 0), (w.heap.size + 1, 0, .int .i64 u), (w.heap.size + 1, 1, .int .i64 v), (w.heap.size + 1, 2, .bool raw2), (w.heap.size, 0, .int .i64 x), (w.heap.size, 1, .int .i64 y), (w.heap.size, 2, .bool raw)] w7 := Keep.below hb7 (And.right (And.right (And.right (And.right (And.right (And.right (by assumption)))))))) | (go_at_call 26; refine (QL.out _).mono ?_; rintro e w' ⟨rfl, rfl⟩))
  clear J7 sx
  clear k0 z0 k1 z1 k2 z2 k3 z3 k4 z4 k5 z5 k6 z6 k7 z7 k8 z8 k9 z9
  obtain ⟨⟨k0, z0, k1, z1, k2, z2, k3, z3, k4, z4, k5, z5, k6, z6, k7, z7, k8, z8, k9, z9, _⟩, hB⟩ := id K7
  clear hB
  go_wp2_with fail
  refine (QH.out _).mono ?_; rintro e w' ⟨rfl, rfl⟩
  go_wp2_with fail
  refine (QH.out _).mono ?_; rintro e w' ⟨rfl, rfl⟩
  go_wp2_with fail
  go_ret
  exact ⟨rfl, And.right K7⟩
set_option maxRecDepth 100000 in
set_option maxHeartbeats 4000000 in
theorem quos_ns (x y : Int) (raw : Bool) (u v : Int) (raw2 : Bool) (c d : Int) (h : numC (zw raw x) (zw raw y) = none) (h2 : numC (zw raw2 u) (zw raw2 v) = some (c, d)) (w : World) :
    Calls Tryd.prog 8 #[.agg #[.int .i64 x, .int .i64 y, .bool raw], .agg #[.int .i64 u, .int .i64 v, .bool raw2]] w fun e w' => e = .returned (.bool true) ∧ Below w.heap.size w w' := by
  have QO := Lib.hid (fun w => of_none (zw_lt raw x) (zw_lt raw y) h w)
  have QO2 := Lib.hid (fun w => of_some (zw_lt raw2 u) (zw_lt raw2 v) h2 w)
  have QC := Lib.hid (fun w => conj_none (zw_lt raw x) (zw_lt raw y) h w)
  have QQ := Lib.hid (fun w => quo_shp (zw_lt raw x) (zw_lt raw y) (zw_lt raw2 u) (zw_lt raw2 v) (.inl h) w)
  have QL := Lib.hid (fun w => less_shp (zw_lt raw x) (zw_lt raw y) (zw_lt raw2 u) (zw_lt raw2 v) (.inl h) w)
  have QH := Lib.hid (fun w => shapeless_yes w)
  clear h h2
  go_enter Tryd.func8, Tryd.ntmps8
  go_wp2_with fail
  refine (awake_any _).mono ?_; rintro e w' ⟨rfl, rfl⟩
  go_wp2_with fail
  refine (z_any _ _ _ _).mono ?_; rintro e w1 ⟨rfl, hb1⟩
  have K1 : Keep w [(w.heap.size + 1, 0, .int .i64 u), (w.heap.size + 1, 1, .int .i64 v), (w.heap.size + 1, 2, .bool raw2), (w.heap.size, 0, .int .i64 x), (w.heap.size, 1, .int .i64 y), (w.heap.size, 2, .bool raw)] w1 := Keep.below hb1 (Keep.alloc3 (k := w.heap.size + 1) _ _ _ _ (by simp) (Keep.alloc3 (k := w.heap.size) _ _ _ _ (by simp) (Keep.start w)))
  clear hb1
  obtain ⟨⟨k0, z0, k1, z1, k2, z2, k3, z3, k4, z4, k5, z5, _⟩, hB⟩ := id K1
  clear hB
  go_wp2_with fail
  refine (QO.out _).mono ?_; rintro e w2 ⟨rfl, hb2⟩
  have K2 : Keep w [(w.heap.size + 1, 0, .int .i64 u), (w.heap.size + 1, 1, .int .i64 v), (w.heap.size + 1, 2, .bool raw2), (w.heap.size, 0, .int .i64 x), (w.heap.size, 1, .int .i64 y), (w.heap.size, 2, .bool raw)] w2 := Keep.below hb2 K1
  clear hb2
  clear k0 z0 k1 z1 k2 z2 k3 z3 k4 z4 k5 z5
  obtain ⟨⟨k0, z0, k1, z1, k2, z2, k3, z3, k4, z4, k5, z5, _⟩, hB⟩ := id K2
  clear hB
  go_wp2_with fail
  refine (z_any _ _ _ _).mono ?_; rintro e w3 ⟨rfl, hb3⟩
  have K3 : Keep w [(w2.heap.size, 0, .int .i64 0), (w2.heap.size, 1, .int .i64 0), (w.heap.size + 1, 0, .int .i64 u), (w.heap.size + 1, 1, .int .i64 v), (w.heap.size + 1, 2, .bool raw2), (w.heap.size, 0, .int .i64 x), (w.heap.size, 1, .int .i64 y), (w.heap.size, 2, .bool raw)] w3 := Keep.below hb3 (Keep.alloc2 (k := w2.heap.size) _ _ 32 (by simp) K2)
  clear hb3
  clear k0 z0 k1 z1 k2 z2 k3 z3 k4 z4 k5 z5
  obtain ⟨⟨k0, z0, k1, z1, k2, z2, k3, z3, k4, z4, k5, z5, k6, z6, k7, z7, _⟩, hB⟩ := id K3
  clear hB
  go_wp2_with fail
  refine (QO2.out _).mono ?_; rintro e w4 ⟨rfl, hb4⟩
  have K4 : Keep w [(w2.heap.size, 0, .int .i64 0), (w2.heap.size, 1, .int .i64 0), (w.heap.size + 1, 0, .int .i64 u), (w.heap.size + 1, 1, .int .i64 v), (w.heap.size + 1, 2, .bool raw2), (w.heap.size, 0, .int .i64 x), (w.heap.size, 1, .int .i64 y), (w.heap.size, 2, .bool raw)] w4 := Keep.below hb4 K3
  clear hb4
  clear k0 z0 k1 z1 k2 z2 k3 z3 k4 z4 k5 z5 k6 z6 k7 z7
  obtain ⟨⟨k0, z0, k1, z1, k2, z2, k3, z3, k4, z4, k5, z5, k6, z6, k7, z7, _⟩, hB⟩ := id K4
  clear hB
  go_wp2_with fail
  have J5 : Keep w [(w4.heap.size, 0, .int .i64 c), (w4.heap.size, 1, .int .i64 d), (w2.heap.size, 0, .int .i64 0), (w2.heap.size, 1, .int .i64 0), (w.heap.size + 1, 0, .int .i64 u), (w.heap.size + 1, 1, .int .i64 v), (w.heap.size + 1, 2, .bool raw2), (w.heap.size, 0, .int .i64 x), (w.heap.size, 1, .int .i64 y), (w.heap.size, 2, .bool raw)] _ := Keep.drew (Keep.alloc2 (k := w4.heap.size) _ _ 32 (by simp) K4)
  have sx : ∀ X, Keep w [(w4.heap.size, 0, .int .i64 c), (w4.heap.size, 1, .int .i64 d), (w2.heap.size, 0, .int .i64 0), (w2.heap.size, 1, .int .i64 0), (w.heap.size + 1, 0, .int .i64 u), (w.heap.size + 1, 1, .int .i64 v), (w.heap.size + 1, 2, .bool raw2), (w.heap.size, 0, .int .i64 x), (w.heap.size, 1, .int .i64 y), (w.heap.size, 2, .bool raw)] X → (fun w' => w'.cell? ⟨w.heap.size, 0, none⟩ = some (.int .i64 x) ∧ w'.cell? ⟨w.heap.size, 1, none⟩ = some (.int .i64 y) ∧ w'.cell? ⟨w.heap.size, 2, none⟩ = some (.bool raw) ∧ w'.cell? ⟨w.heap.size + 1, 0, none⟩ = some (.int .i64 u) ∧ w'.cell? ⟨w.heap.size + 1, 1, none⟩ = some (.int .i64 v) ∧ w'.cell? ⟨w.heap.size + 1, 2, none⟩ = some (.bool raw2) ∧ Keep w [(w4.heap.size, 0, .int .i64 c), (w4.heap.size, 1, .int .i64 d), (w2.heap.size, 0, .int .i64 0), (w2.heap.size, 1, .int .i64 0), (w.heap.size + 1, 0, .int .i64 u), (w.heap.size + 1, 1, .int .i64 v), (w.heap.size + 1, 2, .bool raw2), (w.heap.size, 0, .int .i64 x), (w.heap.size, 1, .int .i64 y), (w.heap.size, 2, .bool raw)] w') X := by
    intro X hX
    obtain ⟨⟨q0, y0, q1, y1, q2, y2, q3, y3, q4, y4, q5, y5, q6, y6, q7, y7, q8, y8, q9, y9, _⟩, hB⟩ := id hX
    exact ⟨q7, q8, q9, q4, q5, q6, hX⟩
  go_region_held3 (fun w' => w'.cell? ⟨w.heap.size, 0, none⟩ = some (.int .i64 x) ∧ w'.cell? ⟨w.heap.size, 1, none⟩ = some (.int .i64 y) ∧ w'.cell? ⟨w.heap.size, 2, none⟩ = some (.bool raw) ∧ w'.cell? ⟨w.heap.size + 1, 0, none⟩ = some (.int .i64 u) ∧ w'.cell? ⟨w.heap.size + 1, 1, none⟩ = some (.int .i64 v) ∧ w'.cell? ⟨w.heap.size + 1, 2, none⟩ = some (.bool raw2) ∧ Keep w [(w4.heap.size, 0, .int .i64 c), (w4.heap.size, 1, .int .i64 d), (w2.heap.size, 0, .int .i64 0), (w2.heap.size, 1, .int .i64 0), (w.heap.size + 1, 0, .int .i64 u), (w.heap.size + 1, 1, .int .i64 v), (w.heap.size + 1, 2, .bool raw2), (w.heap.size, 0, .int .i64 x), (w.heap.size, 1, .int .i64 y), (w.heap.size, 2, .bool raw)] w') (first | exact sx _ K5 | exact sx _ J5)
    (first | (go_at_call 15; refine (z_any _ _ _ _).mono ?_; rintro e w5 ⟨rfl, hb5⟩; have K5 : Keep w [(w4.heap.size, 0, .int .i64 c), (w4.heap.size, 1, .int .i64 d), (w2.heap.size, 0, .int .i64 0), (w2.heap.size, 1, .int .i64 0), (w.heap.size + 1, 0, .int .i64 u), (w.heap.size + 1, 1, .int .i64 v), (w.heap.size + 1, 2, .bool raw2), (w.heap.size, 0, .int .i64 x), (w.heap.size, 1, .int .i64 y), (w.heap.size, 2, .bool raw)] w5 := Keep.below hb5 (And.right (And.right (And.right (And.right (And.right (And.right (by assumption)))))))) | (go_at_call 28; refine (QQ.out _).mono ?_; rintro e w' ⟨rfl, rfl⟩))
  clear J5 sx
  clear k0 z0 k1 z1 k2 z2 k3 z3 k4 z4 k5 z5 k6 z6 k7 z7
  obtain ⟨⟨k0, z0, k1, z1, k2, z2, k3, z3, k4, z4, k5, z5, k6, z6, k7, z7, k8, z8, k9, z9, _⟩, hB⟩ := id K5
  clear hB
  go_wp2_with fail
  refine (z_any _ _ _ _).mono ?_; rintro e w6 ⟨rfl, hb6⟩
  have K6 : Keep w [(w4.heap.size, 0, .int .i64 c), (w4.heap.size, 1, .int .i64 d), (w2.heap.size, 0, .int .i64 0), (w2.heap.size, 1, .int .i64 0), (w.heap.size + 1, 0, .int .i64 u), (w.heap.size + 1, 1, .int .i64 v), (w.heap.size + 1, 2, .bool raw2), (w.heap.size, 0, .int .i64 x), (w.heap.size, 1, .int .i64 y), (w.heap.size, 2, .bool raw)] w6 := Keep.below hb6 K5
  clear hb6
  clear k0 z0 k1 z1 k2 z2 k3 z3 k4 z4 k5 z5 k6 z6 k7 z7 k8 z8 k9 z9
  obtain ⟨⟨k0, z0, k1, z1, k2, z2, k3, z3, k4, z4, k5, z5, k6, z6, k7, z7, k8, z8, k9, z9, _⟩, hB⟩ := id K6
  clear hB
  go_wp2_with fail
  refine (QC.out _).mono ?_; rintro e w' ⟨rfl, rfl⟩
  go_wp2_with fail
  have J7 : Keep w [(w4.heap.size, 0, .int .i64 c), (w4.heap.size, 1, .int .i64 d), (w2.heap.size, 0, .int .i64 0), (w2.heap.size, 1, .int .i64 0), (w.heap.size + 1, 0, .int .i64 u), (w.heap.size + 1, 1, .int .i64 v), (w.heap.size + 1, 2, .bool raw2), (w.heap.size, 0, .int .i64 x), (w.heap.size, 1, .int .i64 y), (w.heap.size, 2, .bool raw)] _ := Keep.drew K6
  have sx : ∀ X, Keep w [(w4.heap.size, 0, .int .i64 c), (w4.heap.size, 1, .int .i64 d), (w2.heap.size, 0, .int .i64 0), (w2.heap.size, 1, .int .i64 0), (w.heap.size + 1, 0, .int .i64 u), (w.heap.size + 1, 1, .int .i64 v), (w.heap.size + 1, 2, .bool raw2), (w.heap.size, 0, .int .i64 x), (w.heap.size, 1, .int .i64 y), (w.heap.size, 2, .bool raw)] X → (fun w' => w'.cell? ⟨w.heap.size, 0, none⟩ = some (.int .i64 x) ∧ w'.cell? ⟨w.heap.size, 1, none⟩ = some (.int .i64 y) ∧ w'.cell? ⟨w.heap.size, 2, none⟩ = some (.bool raw) ∧ w'.cell? ⟨w.heap.size + 1, 0, none⟩ = some (.int .i64 u) ∧ w'.cell? ⟨w.heap.size + 1, 1, none⟩ = some (.int .i64 v) ∧ w'.cell? ⟨w.heap.size + 1, 2, none⟩ = some (.bool raw2) ∧ Keep w [(w4.heap.size, 0, .int .i64 c), (w4.heap.size, 1, .int .i64 d), (w2.heap.size, 0, .int .i64 0), (w2.heap.size, 1, .int .i64 0), (w.heap.size + 1, 0, .int .i64 u), (w.heap.size + 1, 1, .int .i64 v), (w.heap.size + 1, 2, .bool raw2), (w.heap.size, 0, .int .i64 x), (w.heap.size, 1, .int .i64 y), (w.heap.size, 2, .bool raw)] w') X := by
    intro X hX
    obtain ⟨⟨q0, y0, q1, y1, q2, y2, q3, y3, q4, y4, q5, y5, q6, y6, q7, y7, q8, y8, q9, y9, _⟩, hB⟩ := id hX
    exact ⟨q7, q8, q9, q4, q5, q6, hX⟩
  go_region_held3 (fun w' => w'.cell? ⟨w.heap.size, 0, none⟩ = some (.int .i64 x) ∧ w'.cell? ⟨w.heap.size, 1, none⟩ = some (.int .i64 y) ∧ w'.cell? ⟨w.heap.size, 2, none⟩ = some (.bool raw) ∧ w'.cell? ⟨w.heap.size + 1, 0, none⟩ = some (.int .i64 u) ∧ w'.cell? ⟨w.heap.size + 1, 1, none⟩ = some (.int .i64 v) ∧ w'.cell? ⟨w.heap.size + 1, 2, none⟩ = some (.bool raw2) ∧ Keep w [(w4.heap.size, 0, .int .i64 c), (w4.heap.size, 1, .int .i64 d), (w2.heap.size, 0, .int .i64 0), (w2.heap.size, 1, .int .i64 0), (w.heap.size + 1, 0, .int .i64 u), (w.heap.size + 1, 1, .int .i64 v), (w.heap.size + 1, 2, .bool raw2), (w.heap.size, 0, .int .i64 x), (w.heap.size, 1, .int .i64 y), (w.heap.size, 2, .bool raw)] w') (first | exact sx _ K7 | exact sx _ J7)
    (first | (go_at_call 15; refine (z_any _ _ _ _).mono ?_; rintro e w7 ⟨rfl, hb7⟩; have K7 : Keep w [(w4.heap.size, 0, .int .i64 c), (w4.heap.size, 1, .int .i64 d), (w2.heap.size, 0, .int .i64 0), (w2.heap.size, 1, .int .i64 0), (w.heap.size + 1, 0, .int .i64 u), (w.heap.size + 1, 1, .int .i64 v), (w.heap.size + 1, 2, .bool raw2), (w.heap.size, 0, .int .i64 x), (w.heap.size, 1, .int .i64 y), (w.heap.size, 2, .bool raw)] w7 := Keep.below hb7 (And.right (And.right (And.right (And.right (And.right (And.right (by assumption)))))))) | (go_at_call 26; refine (QL.out _).mono ?_; rintro e w' ⟨rfl, rfl⟩))
  clear J7 sx
  clear k0 z0 k1 z1 k2 z2 k3 z3 k4 z4 k5 z5 k6 z6 k7 z7 k8 z8 k9 z9
  obtain ⟨⟨k0, z0, k1, z1, k2, z2, k3, z3, k4, z4, k5, z5, k6, z6, k7, z7, k8, z8, k9, z9, _⟩, hB⟩ := id K7
  clear hB
  go_wp2_with fail
  refine (QH.out _).mono ?_; rintro e w' ⟨rfl, rfl⟩
  go_wp2_with fail
  refine (QH.out _).mono ?_; rintro e w' ⟨rfl, rfl⟩
  go_wp2_with fail
  go_ret
  exact ⟨rfl, And.right K7⟩
set_option maxRecDepth 100000 in
set_option maxHeartbeats 4000000 in
theorem quos_sn (x y : Int) (raw : Bool) (u v : Int) (raw2 : Bool) (a b : Int) (h : numC (zw raw x) (zw raw y) = some (a, b)) (h2 : numC (zw raw2 u) (zw raw2 v) = none) (w : World) :
    Calls Tryd.prog 8 #[.agg #[.int .i64 x, .int .i64 y, .bool raw], .agg #[.int .i64 u, .int .i64 v, .bool raw2]] w fun e w' => e = .returned (.bool true) ∧ Below w.heap.size w w' := by
  have QO := Lib.hid (fun w => of_some (zw_lt raw x) (zw_lt raw y) h w)
  have QO2 := Lib.hid (fun w => of_none (zw_lt raw2 u) (zw_lt raw2 v) h2 w)
  have QC := Lib.hid (fun w => conj_some (zw_lt raw x) (zw_lt raw y) h w)
  have QT1 := Lib.hid (fun w => told_yes a (-b) 0 w)
  have hb1 := (numOf_rng (numC_some h).2).1; have hb2 := (numOf_rng (numC_some h).2).2
  have QQ := Lib.hid (fun w => quo_shp (zw_lt raw x) (zw_lt raw y) (zw_lt raw2 u) (zw_lt raw2 v) (.inr h2) w)
  have QL := Lib.hid (fun w => less_shp (zw_lt raw x) (zw_lt raw y) (zw_lt raw2 u) (zw_lt raw2 v) (.inr h2) w)
  have QH := Lib.hid (fun w => shapeless_yes w)
  clear h h2
  go_enter Tryd.func8, Tryd.ntmps8
  go_wp2_with fail
  refine (awake_any _).mono ?_; rintro e w' ⟨rfl, rfl⟩
  go_wp2_with fail
  refine (z_any _ _ _ _).mono ?_; rintro e w1 ⟨rfl, hb1⟩
  have K1 : Keep w [(w.heap.size + 1, 0, .int .i64 u), (w.heap.size + 1, 1, .int .i64 v), (w.heap.size + 1, 2, .bool raw2), (w.heap.size, 0, .int .i64 x), (w.heap.size, 1, .int .i64 y), (w.heap.size, 2, .bool raw)] w1 := Keep.below hb1 (Keep.alloc3 (k := w.heap.size + 1) _ _ _ _ (by simp) (Keep.alloc3 (k := w.heap.size) _ _ _ _ (by simp) (Keep.start w)))
  clear hb1
  obtain ⟨⟨k0, z0, k1, z1, k2, z2, k3, z3, k4, z4, k5, z5, _⟩, hB⟩ := id K1
  clear hB
  go_wp2_with fail
  refine (QO.out _).mono ?_; rintro e w2 ⟨rfl, hb2⟩
  have K2 : Keep w [(w.heap.size + 1, 0, .int .i64 u), (w.heap.size + 1, 1, .int .i64 v), (w.heap.size + 1, 2, .bool raw2), (w.heap.size, 0, .int .i64 x), (w.heap.size, 1, .int .i64 y), (w.heap.size, 2, .bool raw)] w2 := Keep.below hb2 K1
  clear hb2
  clear k0 z0 k1 z1 k2 z2 k3 z3 k4 z4 k5 z5
  obtain ⟨⟨k0, z0, k1, z1, k2, z2, k3, z3, k4, z4, k5, z5, _⟩, hB⟩ := id K2
  clear hB
  go_wp2_with fail
  refine (z_any _ _ _ _).mono ?_; rintro e w3 ⟨rfl, hb3⟩
  have K3 : Keep w [(w2.heap.size, 0, .int .i64 a), (w2.heap.size, 1, .int .i64 b), (w.heap.size + 1, 0, .int .i64 u), (w.heap.size + 1, 1, .int .i64 v), (w.heap.size + 1, 2, .bool raw2), (w.heap.size, 0, .int .i64 x), (w.heap.size, 1, .int .i64 y), (w.heap.size, 2, .bool raw)] w3 := Keep.below hb3 (Keep.alloc2 (k := w2.heap.size) _ _ 32 (by simp) K2)
  clear hb3
  clear k0 z0 k1 z1 k2 z2 k3 z3 k4 z4 k5 z5
  obtain ⟨⟨k0, z0, k1, z1, k2, z2, k3, z3, k4, z4, k5, z5, k6, z6, k7, z7, _⟩, hB⟩ := id K3
  clear hB
  go_wp2_with fail
  refine (QO2.out _).mono ?_; rintro e w4 ⟨rfl, hb4⟩
  have K4 : Keep w [(w2.heap.size, 0, .int .i64 a), (w2.heap.size, 1, .int .i64 b), (w.heap.size + 1, 0, .int .i64 u), (w.heap.size + 1, 1, .int .i64 v), (w.heap.size + 1, 2, .bool raw2), (w.heap.size, 0, .int .i64 x), (w.heap.size, 1, .int .i64 y), (w.heap.size, 2, .bool raw)] w4 := Keep.below hb4 K3
  clear hb4
  clear k0 z0 k1 z1 k2 z2 k3 z3 k4 z4 k5 z5 k6 z6 k7 z7
  obtain ⟨⟨k0, z0, k1, z1, k2, z2, k3, z3, k4, z4, k5, z5, k6, z6, k7, z7, _⟩, hB⟩ := id K4
  clear hB
  go_wp2_with fail
  have J5 : Keep w [(w4.heap.size, 0, .int .i64 0), (w4.heap.size, 1, .int .i64 0), (w2.heap.size, 0, .int .i64 a), (w2.heap.size, 1, .int .i64 b), (w.heap.size + 1, 0, .int .i64 u), (w.heap.size + 1, 1, .int .i64 v), (w.heap.size + 1, 2, .bool raw2), (w.heap.size, 0, .int .i64 x), (w.heap.size, 1, .int .i64 y), (w.heap.size, 2, .bool raw)] _ := Keep.drew (Keep.alloc2 (k := w4.heap.size) _ _ 32 (by simp) K4)
  have sx : ∀ X, Keep w [(w4.heap.size, 0, .int .i64 0), (w4.heap.size, 1, .int .i64 0), (w2.heap.size, 0, .int .i64 a), (w2.heap.size, 1, .int .i64 b), (w.heap.size + 1, 0, .int .i64 u), (w.heap.size + 1, 1, .int .i64 v), (w.heap.size + 1, 2, .bool raw2), (w.heap.size, 0, .int .i64 x), (w.heap.size, 1, .int .i64 y), (w.heap.size, 2, .bool raw)] X → (fun w' => w'.cell? ⟨w.heap.size, 0, none⟩ = some (.int .i64 x) ∧ w'.cell? ⟨w.heap.size, 1, none⟩ = some (.int .i64 y) ∧ w'.cell? ⟨w.heap.size, 2, none⟩ = some (.bool raw) ∧ w'.cell? ⟨w.heap.size + 1, 0, none⟩ = some (.int .i64 u) ∧ w'.cell? ⟨w.heap.size + 1, 1, none⟩ = some (.int .i64 v) ∧ w'.cell? ⟨w.heap.size + 1, 2, none⟩ = some (.bool raw2) ∧ Keep w [(w4.heap.size, 0, .int .i64 0), (w4.heap.size, 1, .int .i64 0), (w2.heap.size, 0, .int .i64 a), (w2.heap.size, 1, .int .i64 b), (w.heap.size + 1, 0, .int .i64 u), (w.heap.size + 1, 1, .int .i64 v), (w.heap.size + 1, 2, .bool raw2), (w.heap.size, 0, .int .i64 x), (w.heap.size, 1, .int .i64 y), (w.heap.size, 2, .bool raw)] w') X := by
    intro X hX
    obtain ⟨⟨q0, y0, q1, y1, q2, y2, q3, y3, q4, y4, q5, y5, q6, y6, q7, y7, q8, y8, q9, y9, _⟩, hB⟩ := id hX
    exact ⟨q7, q8, q9, q4, q5, q6, hX⟩
  go_region_held3 (fun w' => w'.cell? ⟨w.heap.size, 0, none⟩ = some (.int .i64 x) ∧ w'.cell? ⟨w.heap.size, 1, none⟩ = some (.int .i64 y) ∧ w'.cell? ⟨w.heap.size, 2, none⟩ = some (.bool raw) ∧ w'.cell? ⟨w.heap.size + 1, 0, none⟩ = some (.int .i64 u) ∧ w'.cell? ⟨w.heap.size + 1, 1, none⟩ = some (.int .i64 v) ∧ w'.cell? ⟨w.heap.size + 1, 2, none⟩ = some (.bool raw2) ∧ Keep w [(w4.heap.size, 0, .int .i64 0), (w4.heap.size, 1, .int .i64 0), (w2.heap.size, 0, .int .i64 a), (w2.heap.size, 1, .int .i64 b), (w.heap.size + 1, 0, .int .i64 u), (w.heap.size + 1, 1, .int .i64 v), (w.heap.size + 1, 2, .bool raw2), (w.heap.size, 0, .int .i64 x), (w.heap.size, 1, .int .i64 y), (w.heap.size, 2, .bool raw)] w') (first | exact sx _ K5 | exact sx _ J5)
    (first | (go_at_call 15; refine (z_any _ _ _ _).mono ?_; rintro e w5 ⟨rfl, hb5⟩; have K5 : Keep w [(w4.heap.size, 0, .int .i64 0), (w4.heap.size, 1, .int .i64 0), (w2.heap.size, 0, .int .i64 a), (w2.heap.size, 1, .int .i64 b), (w.heap.size + 1, 0, .int .i64 u), (w.heap.size + 1, 1, .int .i64 v), (w.heap.size + 1, 2, .bool raw2), (w.heap.size, 0, .int .i64 x), (w.heap.size, 1, .int .i64 y), (w.heap.size, 2, .bool raw)] w5 := Keep.below hb5 (And.right (And.right (And.right (And.right (And.right (And.right (by assumption)))))))) | (go_at_call 28; refine (QQ.out _).mono ?_; rintro e w' ⟨rfl, rfl⟩))
  clear J5 sx
  clear k0 z0 k1 z1 k2 z2 k3 z3 k4 z4 k5 z5 k6 z6 k7 z7
  obtain ⟨⟨k0, z0, k1, z1, k2, z2, k3, z3, k4, z4, k5, z5, k6, z6, k7, z7, k8, z8, k9, z9, _⟩, hB⟩ := id K5
  clear hB
  go_wp2_with fail
  refine (z_any _ _ _ _).mono ?_; rintro e w6 ⟨rfl, hb6⟩
  have K6 : Keep w [(w4.heap.size, 0, .int .i64 0), (w4.heap.size, 1, .int .i64 0), (w2.heap.size, 0, .int .i64 a), (w2.heap.size, 1, .int .i64 b), (w.heap.size + 1, 0, .int .i64 u), (w.heap.size + 1, 1, .int .i64 v), (w.heap.size + 1, 2, .bool raw2), (w.heap.size, 0, .int .i64 x), (w.heap.size, 1, .int .i64 y), (w.heap.size, 2, .bool raw)] w6 := Keep.below hb6 K5
  clear hb6
  clear k0 z0 k1 z1 k2 z2 k3 z3 k4 z4 k5 z5 k6 z6 k7 z7 k8 z8 k9 z9
  obtain ⟨⟨k0, z0, k1, z1, k2, z2, k3, z3, k4, z4, k5, z5, k6, z6, k7, z7, k8, z8, k9, z9, _⟩, hB⟩ := id K6
  clear hB
  go_wp2_with fail
  refine (QC.out _).mono ?_; rintro e w' ⟨rfl, rfl⟩
  go_wp2_with fail
  have J7 : Keep w [(w4.heap.size, 0, .int .i64 0), (w4.heap.size, 1, .int .i64 0), (w2.heap.size, 0, .int .i64 a), (w2.heap.size, 1, .int .i64 b), (w.heap.size + 1, 0, .int .i64 u), (w.heap.size + 1, 1, .int .i64 v), (w.heap.size + 1, 2, .bool raw2), (w.heap.size, 0, .int .i64 x), (w.heap.size, 1, .int .i64 y), (w.heap.size, 2, .bool raw)] _ := Keep.drew K6
  have sx : ∀ X, Keep w [(w4.heap.size, 0, .int .i64 0), (w4.heap.size, 1, .int .i64 0), (w2.heap.size, 0, .int .i64 a), (w2.heap.size, 1, .int .i64 b), (w.heap.size + 1, 0, .int .i64 u), (w.heap.size + 1, 1, .int .i64 v), (w.heap.size + 1, 2, .bool raw2), (w.heap.size, 0, .int .i64 x), (w.heap.size, 1, .int .i64 y), (w.heap.size, 2, .bool raw)] X → (fun w' => w'.cell? ⟨w.heap.size, 0, none⟩ = some (.int .i64 x) ∧ w'.cell? ⟨w.heap.size, 1, none⟩ = some (.int .i64 y) ∧ w'.cell? ⟨w.heap.size, 2, none⟩ = some (.bool raw) ∧ w'.cell? ⟨w.heap.size + 1, 0, none⟩ = some (.int .i64 u) ∧ w'.cell? ⟨w.heap.size + 1, 1, none⟩ = some (.int .i64 v) ∧ w'.cell? ⟨w.heap.size + 1, 2, none⟩ = some (.bool raw2) ∧ Keep w [(w4.heap.size, 0, .int .i64 0), (w4.heap.size, 1, .int .i64 0), (w2.heap.size, 0, .int .i64 a), (w2.heap.size, 1, .int .i64 b), (w.heap.size + 1, 0, .int .i64 u), (w.heap.size + 1, 1, .int .i64 v), (w.heap.size + 1, 2, .bool raw2), (w.heap.size, 0, .int .i64 x), (w.heap.size, 1, .int .i64 y), (w.heap.size, 2, .bool raw)] w') X := by
    intro X hX
    obtain ⟨⟨q0, y0, q1, y1, q2, y2, q3, y3, q4, y4, q5, y5, q6, y6, q7, y7, q8, y8, q9, y9, _⟩, hB⟩ := id hX
    exact ⟨q7, q8, q9, q4, q5, q6, hX⟩
  go_region_held3 (fun w' => w'.cell? ⟨w.heap.size, 0, none⟩ = some (.int .i64 x) ∧ w'.cell? ⟨w.heap.size, 1, none⟩ = some (.int .i64 y) ∧ w'.cell? ⟨w.heap.size, 2, none⟩ = some (.bool raw) ∧ w'.cell? ⟨w.heap.size + 1, 0, none⟩ = some (.int .i64 u) ∧ w'.cell? ⟨w.heap.size + 1, 1, none⟩ = some (.int .i64 v) ∧ w'.cell? ⟨w.heap.size + 1, 2, none⟩ = some (.bool raw2) ∧ Keep w [(w4.heap.size, 0, .int .i64 0), (w4.heap.size, 1, .int .i64 0), (w2.heap.size, 0, .int .i64 a), (w2.heap.size, 1, .int .i64 b), (w.heap.size + 1, 0, .int .i64 u), (w.heap.size + 1, 1, .int .i64 v), (w.heap.size + 1, 2, .bool raw2), (w.heap.size, 0, .int .i64 x), (w.heap.size, 1, .int .i64 y), (w.heap.size, 2, .bool raw)] w') (first | exact sx _ K7 | exact sx _ J7)
    (first | (go_at_call 15; refine (z_any _ _ _ _).mono ?_; rintro e w7 ⟨rfl, hb7⟩; have K7 : Keep w [(w4.heap.size, 0, .int .i64 0), (w4.heap.size, 1, .int .i64 0), (w2.heap.size, 0, .int .i64 a), (w2.heap.size, 1, .int .i64 b), (w.heap.size + 1, 0, .int .i64 u), (w.heap.size + 1, 1, .int .i64 v), (w.heap.size + 1, 2, .bool raw2), (w.heap.size, 0, .int .i64 x), (w.heap.size, 1, .int .i64 y), (w.heap.size, 2, .bool raw)] w7 := Keep.below hb7 (And.right (And.right (And.right (And.right (And.right (And.right (by assumption)))))))) | (go_at_call 26; refine (QL.out _).mono ?_; rintro e w' ⟨rfl, rfl⟩))
  clear J7 sx
  clear k0 z0 k1 z1 k2 z2 k3 z3 k4 z4 k5 z5 k6 z6 k7 z7 k8 z8 k9 z9
  obtain ⟨⟨k0, z0, k1, z1, k2, z2, k3, z3, k4, z4, k5, z5, k6, z6, k7, z7, k8, z8, k9, z9, _⟩, hB⟩ := id K7
  clear hB
  go_wp2_with fail
  refine (QT1.out _).mono ?_; rintro e w8 ⟨rfl, hb8⟩
  have K8 : Keep w [(w4.heap.size, 0, .int .i64 0), (w4.heap.size, 1, .int .i64 0), (w2.heap.size, 0, .int .i64 a), (w2.heap.size, 1, .int .i64 b), (w.heap.size + 1, 0, .int .i64 u), (w.heap.size + 1, 1, .int .i64 v), (w.heap.size + 1, 2, .bool raw2), (w.heap.size, 0, .int .i64 x), (w.heap.size, 1, .int .i64 y), (w.heap.size, 2, .bool raw)] w8 := Keep.below hb8 K7
  clear hb8
  clear k0 z0 k1 z1 k2 z2 k3 z3 k4 z4 k5 z5 k6 z6 k7 z7 k8 z8 k9 z9
  obtain ⟨⟨k0, z0, k1, z1, k2, z2, k3, z3, k4, z4, k5, z5, k6, z6, k7, z7, k8, z8, k9, z9, _⟩, hB⟩ := id K8
  clear hB
  go_wp2_with fail
  refine (QH.out _).mono ?_; rintro e w' ⟨rfl, rfl⟩
  go_wp2_with fail
  go_ret
  exact ⟨rfl, And.right K8⟩
set_option maxRecDepth 100000 in
set_option maxHeartbeats 4000000 in
theorem quos_ss (x y : Int) (raw : Bool) (u v : Int) (raw2 : Bool) (a b : Int) (c d : Int) (h : numC (zw raw x) (zw raw y) = some (a, b)) (h2 : numC (zw raw2 u) (zw raw2 v) = some (c, d)) (w : World) :
    Calls Tryd.prog 8 #[.agg #[.int .i64 x, .int .i64 y, .bool raw], .agg #[.int .i64 u, .int .i64 v, .bool raw2]] w fun e w' => e = .returned (.bool true) ∧ Below w.heap.size w w' := by
  have QO := Lib.hid (fun w => of_some (zw_lt raw x) (zw_lt raw y) h w)
  have QO2 := Lib.hid (fun w => of_some (zw_lt raw2 u) (zw_lt raw2 v) h2 w)
  have QC := Lib.hid (fun w => conj_some (zw_lt raw x) (zw_lt raw y) h w)
  have QT1 := Lib.hid (fun w => told_yes a (-b) 0 w)
  have hb1 := (numOf_rng (numC_some h).2).1; have hb2 := (numOf_rng (numC_some h).2).2
  have QQ := Lib.hid (fun w => quo_some (zw_lt raw x) (zw_lt raw y) (zw_lt raw2 u) (zw_lt raw2 v) h h2 w)
  have QL := Lib.hid (fun w => less_some (zw_lt raw x) (zw_lt raw y) (zw_lt raw2 u) (zw_lt raw2 v) h h2 w)
  have QRQ := Lib.hid (fun w => refQuo_any a b c d (numOf_rng (numC_some h).1) (numOf_rng (numC_some h).2) (numOf_rng (numC_some h2).1) (numOf_rng (numC_some h2).2) w)
  have QT2 := Lib.hid (fun w => told_yes (quo a b c d).1.1 (quo a b c d).1.2 (quo a b c d).2 w)
  have QRL := Lib.hid (fun w => refLess_any a b c d w)
  clear h h2
  go_enter Tryd.func8, Tryd.ntmps8
  go_wp2_with fail
  refine (awake_any _).mono ?_; rintro e w' ⟨rfl, rfl⟩
  go_wp2_with fail
  refine (z_any _ _ _ _).mono ?_; rintro e w1 ⟨rfl, hb1⟩
  have K1 : Keep w [(w.heap.size + 1, 0, .int .i64 u), (w.heap.size + 1, 1, .int .i64 v), (w.heap.size + 1, 2, .bool raw2), (w.heap.size, 0, .int .i64 x), (w.heap.size, 1, .int .i64 y), (w.heap.size, 2, .bool raw)] w1 := Keep.below hb1 (Keep.alloc3 (k := w.heap.size + 1) _ _ _ _ (by simp) (Keep.alloc3 (k := w.heap.size) _ _ _ _ (by simp) (Keep.start w)))
  clear hb1
  obtain ⟨⟨k0, z0, k1, z1, k2, z2, k3, z3, k4, z4, k5, z5, _⟩, hB⟩ := id K1
  clear hB
  go_wp2_with fail
  refine (QO.out _).mono ?_; rintro e w2 ⟨rfl, hb2⟩
  have K2 : Keep w [(w.heap.size + 1, 0, .int .i64 u), (w.heap.size + 1, 1, .int .i64 v), (w.heap.size + 1, 2, .bool raw2), (w.heap.size, 0, .int .i64 x), (w.heap.size, 1, .int .i64 y), (w.heap.size, 2, .bool raw)] w2 := Keep.below hb2 K1
  clear hb2
  clear k0 z0 k1 z1 k2 z2 k3 z3 k4 z4 k5 z5
  obtain ⟨⟨k0, z0, k1, z1, k2, z2, k3, z3, k4, z4, k5, z5, _⟩, hB⟩ := id K2
  clear hB
  go_wp2_with fail
  refine (z_any _ _ _ _).mono ?_; rintro e w3 ⟨rfl, hb3⟩
  have K3 : Keep w [(w2.heap.size, 0, .int .i64 a), (w2.heap.size, 1, .int .i64 b), (w.heap.size + 1, 0, .int .i64 u), (w.heap.size + 1, 1, .int .i64 v), (w.heap.size + 1, 2, .bool raw2), (w.heap.size, 0, .int .i64 x), (w.heap.size, 1, .int .i64 y), (w.heap.size, 2, .bool raw)] w3 := Keep.below hb3 (Keep.alloc2 (k := w2.heap.size) _ _ 32 (by simp) K2)
  clear hb3
  clear k0 z0 k1 z1 k2 z2 k3 z3 k4 z4 k5 z5
  obtain ⟨⟨k0, z0, k1, z1, k2, z2, k3, z3, k4, z4, k5, z5, k6, z6, k7, z7, _⟩, hB⟩ := id K3
  clear hB
  go_wp2_with fail
  refine (QO2.out _).mono ?_; rintro e w4 ⟨rfl, hb4⟩
  have K4 : Keep w [(w2.heap.size, 0, .int .i64 a), (w2.heap.size, 1, .int .i64 b), (w.heap.size + 1, 0, .int .i64 u), (w.heap.size + 1, 1, .int .i64 v), (w.heap.size + 1, 2, .bool raw2), (w.heap.size, 0, .int .i64 x), (w.heap.size, 1, .int .i64 y), (w.heap.size, 2, .bool raw)] w4 := Keep.below hb4 K3
  clear hb4
  clear k0 z0 k1 z1 k2 z2 k3 z3 k4 z4 k5 z5 k6 z6 k7 z7
  obtain ⟨⟨k0, z0, k1, z1, k2, z2, k3, z3, k4, z4, k5, z5, k6, z6, k7, z7, _⟩, hB⟩ := id K4
  clear hB
  go_wp2_with fail
  have J5 : Keep w [(w4.heap.size, 0, .int .i64 c), (w4.heap.size, 1, .int .i64 d), (w2.heap.size, 0, .int .i64 a), (w2.heap.size, 1, .int .i64 b), (w.heap.size + 1, 0, .int .i64 u), (w.heap.size + 1, 1, .int .i64 v), (w.heap.size + 1, 2, .bool raw2), (w.heap.size, 0, .int .i64 x), (w.heap.size, 1, .int .i64 y), (w.heap.size, 2, .bool raw)] _ := Keep.drew (Keep.alloc2 (k := w4.heap.size) _ _ 32 (by simp) K4)
  have sx : ∀ X, Keep w [(w4.heap.size, 0, .int .i64 c), (w4.heap.size, 1, .int .i64 d), (w2.heap.size, 0, .int .i64 a), (w2.heap.size, 1, .int .i64 b), (w.heap.size + 1, 0, .int .i64 u), (w.heap.size + 1, 1, .int .i64 v), (w.heap.size + 1, 2, .bool raw2), (w.heap.size, 0, .int .i64 x), (w.heap.size, 1, .int .i64 y), (w.heap.size, 2, .bool raw)] X → (fun w' => w'.cell? ⟨w.heap.size, 0, none⟩ = some (.int .i64 x) ∧ w'.cell? ⟨w.heap.size, 1, none⟩ = some (.int .i64 y) ∧ w'.cell? ⟨w.heap.size, 2, none⟩ = some (.bool raw) ∧ w'.cell? ⟨w.heap.size + 1, 0, none⟩ = some (.int .i64 u) ∧ w'.cell? ⟨w.heap.size + 1, 1, none⟩ = some (.int .i64 v) ∧ w'.cell? ⟨w.heap.size + 1, 2, none⟩ = some (.bool raw2) ∧ Keep w [(w4.heap.size, 0, .int .i64 c), (w4.heap.size, 1, .int .i64 d), (w2.heap.size, 0, .int .i64 a), (w2.heap.size, 1, .int .i64 b), (w.heap.size + 1, 0, .int .i64 u), (w.heap.size + 1, 1, .int .i64 v), (w.heap.size + 1, 2, .bool raw2), (w.heap.size, 0, .int .i64 x), (w.heap.size, 1, .int .i64 y), (w.heap.size, 2, .bool raw)] w') X := by
    intro X hX
    obtain ⟨⟨q0, y0, q1, y1, q2, y2, q3, y3, q4, y4, q5, y5, q6, y6, q7, y7, q8, y8, q9, y9, _⟩, hB⟩ := id hX
    exact ⟨q7, q8, q9, q4, q5, q6, hX⟩
  go_region_held3 (fun w' => w'.cell? ⟨w.heap.size, 0, none⟩ = some (.int .i64 x) ∧ w'.cell? ⟨w.heap.size, 1, none⟩ = some (.int .i64 y) ∧ w'.cell? ⟨w.heap.size, 2, none⟩ = some (.bool raw) ∧ w'.cell? ⟨w.heap.size + 1, 0, none⟩ = some (.int .i64 u) ∧ w'.cell? ⟨w.heap.size + 1, 1, none⟩ = some (.int .i64 v) ∧ w'.cell? ⟨w.heap.size + 1, 2, none⟩ = some (.bool raw2) ∧ Keep w [(w4.heap.size, 0, .int .i64 c), (w4.heap.size, 1, .int .i64 d), (w2.heap.size, 0, .int .i64 a), (w2.heap.size, 1, .int .i64 b), (w.heap.size + 1, 0, .int .i64 u), (w.heap.size + 1, 1, .int .i64 v), (w.heap.size + 1, 2, .bool raw2), (w.heap.size, 0, .int .i64 x), (w.heap.size, 1, .int .i64 y), (w.heap.size, 2, .bool raw)] w') (first | exact sx _ K5 | exact sx _ J5)
    (first | (go_at_call 15; refine (z_any _ _ _ _).mono ?_; rintro e w5 ⟨rfl, hb5⟩; have K5 : Keep w [(w4.heap.size, 0, .int .i64 c), (w4.heap.size, 1, .int .i64 d), (w2.heap.size, 0, .int .i64 a), (w2.heap.size, 1, .int .i64 b), (w.heap.size + 1, 0, .int .i64 u), (w.heap.size + 1, 1, .int .i64 v), (w.heap.size + 1, 2, .bool raw2), (w.heap.size, 0, .int .i64 x), (w.heap.size, 1, .int .i64 y), (w.heap.size, 2, .bool raw)] w5 := Keep.below hb5 (And.right (And.right (And.right (And.right (And.right (And.right (by assumption)))))))) | (go_at_call 28; refine (QQ.out _).mono ?_; rintro e w' ⟨rfl, rfl⟩))
  clear J5 sx
  clear k0 z0 k1 z1 k2 z2 k3 z3 k4 z4 k5 z5 k6 z6 k7 z7
  obtain ⟨⟨k0, z0, k1, z1, k2, z2, k3, z3, k4, z4, k5, z5, k6, z6, k7, z7, k8, z8, k9, z9, _⟩, hB⟩ := id K5
  clear hB
  go_wp2_with fail
  refine (z_any _ _ _ _).mono ?_; rintro e w6 ⟨rfl, hb6⟩
  have K6 : Keep w [(w4.heap.size, 0, .int .i64 c), (w4.heap.size, 1, .int .i64 d), (w2.heap.size, 0, .int .i64 a), (w2.heap.size, 1, .int .i64 b), (w.heap.size + 1, 0, .int .i64 u), (w.heap.size + 1, 1, .int .i64 v), (w.heap.size + 1, 2, .bool raw2), (w.heap.size, 0, .int .i64 x), (w.heap.size, 1, .int .i64 y), (w.heap.size, 2, .bool raw)] w6 := Keep.below hb6 K5
  clear hb6
  clear k0 z0 k1 z1 k2 z2 k3 z3 k4 z4 k5 z5 k6 z6 k7 z7 k8 z8 k9 z9
  obtain ⟨⟨k0, z0, k1, z1, k2, z2, k3, z3, k4, z4, k5, z5, k6, z6, k7, z7, k8, z8, k9, z9, _⟩, hB⟩ := id K6
  clear hB
  go_wp2_with fail
  refine (QC.out _).mono ?_; rintro e w' ⟨rfl, rfl⟩
  go_wp2_with fail
  have J7 : Keep w [(w4.heap.size, 0, .int .i64 c), (w4.heap.size, 1, .int .i64 d), (w2.heap.size, 0, .int .i64 a), (w2.heap.size, 1, .int .i64 b), (w.heap.size + 1, 0, .int .i64 u), (w.heap.size + 1, 1, .int .i64 v), (w.heap.size + 1, 2, .bool raw2), (w.heap.size, 0, .int .i64 x), (w.heap.size, 1, .int .i64 y), (w.heap.size, 2, .bool raw)] _ := Keep.drew K6
  have sx : ∀ X, Keep w [(w4.heap.size, 0, .int .i64 c), (w4.heap.size, 1, .int .i64 d), (w2.heap.size, 0, .int .i64 a), (w2.heap.size, 1, .int .i64 b), (w.heap.size + 1, 0, .int .i64 u), (w.heap.size + 1, 1, .int .i64 v), (w.heap.size + 1, 2, .bool raw2), (w.heap.size, 0, .int .i64 x), (w.heap.size, 1, .int .i64 y), (w.heap.size, 2, .bool raw)] X → (fun w' => w'.cell? ⟨w.heap.size, 0, none⟩ = some (.int .i64 x) ∧ w'.cell? ⟨w.heap.size, 1, none⟩ = some (.int .i64 y) ∧ w'.cell? ⟨w.heap.size, 2, none⟩ = some (.bool raw) ∧ w'.cell? ⟨w.heap.size + 1, 0, none⟩ = some (.int .i64 u) ∧ w'.cell? ⟨w.heap.size + 1, 1, none⟩ = some (.int .i64 v) ∧ w'.cell? ⟨w.heap.size + 1, 2, none⟩ = some (.bool raw2) ∧ Keep w [(w4.heap.size, 0, .int .i64 c), (w4.heap.size, 1, .int .i64 d), (w2.heap.size, 0, .int .i64 a), (w2.heap.size, 1, .int .i64 b), (w.heap.size + 1, 0, .int .i64 u), (w.heap.size + 1, 1, .int .i64 v), (w.heap.size + 1, 2, .bool raw2), (w.heap.size, 0, .int .i64 x), (w.heap.size, 1, .int .i64 y), (w.heap.size, 2, .bool raw)] w') X := by
    intro X hX
    obtain ⟨⟨q0, y0, q1, y1, q2, y2, q3, y3, q4, y4, q5, y5, q6, y6, q7, y7, q8, y8, q9, y9, _⟩, hB⟩ := id hX
    exact ⟨q7, q8, q9, q4, q5, q6, hX⟩
  go_region_held3 (fun w' => w'.cell? ⟨w.heap.size, 0, none⟩ = some (.int .i64 x) ∧ w'.cell? ⟨w.heap.size, 1, none⟩ = some (.int .i64 y) ∧ w'.cell? ⟨w.heap.size, 2, none⟩ = some (.bool raw) ∧ w'.cell? ⟨w.heap.size + 1, 0, none⟩ = some (.int .i64 u) ∧ w'.cell? ⟨w.heap.size + 1, 1, none⟩ = some (.int .i64 v) ∧ w'.cell? ⟨w.heap.size + 1, 2, none⟩ = some (.bool raw2) ∧ Keep w [(w4.heap.size, 0, .int .i64 c), (w4.heap.size, 1, .int .i64 d), (w2.heap.size, 0, .int .i64 a), (w2.heap.size, 1, .int .i64 b), (w.heap.size + 1, 0, .int .i64 u), (w.heap.size + 1, 1, .int .i64 v), (w.heap.size + 1, 2, .bool raw2), (w.heap.size, 0, .int .i64 x), (w.heap.size, 1, .int .i64 y), (w.heap.size, 2, .bool raw)] w') (first | exact sx _ K7 | exact sx _ J7)
    (first | (go_at_call 15; refine (z_any _ _ _ _).mono ?_; rintro e w7 ⟨rfl, hb7⟩; have K7 : Keep w [(w4.heap.size, 0, .int .i64 c), (w4.heap.size, 1, .int .i64 d), (w2.heap.size, 0, .int .i64 a), (w2.heap.size, 1, .int .i64 b), (w.heap.size + 1, 0, .int .i64 u), (w.heap.size + 1, 1, .int .i64 v), (w.heap.size + 1, 2, .bool raw2), (w.heap.size, 0, .int .i64 x), (w.heap.size, 1, .int .i64 y), (w.heap.size, 2, .bool raw)] w7 := Keep.below hb7 (And.right (And.right (And.right (And.right (And.right (And.right (by assumption)))))))) | (go_at_call 26; refine (QL.out _).mono ?_; rintro e w' ⟨rfl, rfl⟩))
  clear J7 sx
  clear k0 z0 k1 z1 k2 z2 k3 z3 k4 z4 k5 z5 k6 z6 k7 z7 k8 z8 k9 z9
  obtain ⟨⟨k0, z0, k1, z1, k2, z2, k3, z3, k4, z4, k5, z5, k6, z6, k7, z7, k8, z8, k9, z9, _⟩, hB⟩ := id K7
  clear hB
  go_wp2_with fail
  refine (QT1.out _).mono ?_; rintro e w8 ⟨rfl, hb8⟩
  have K8 : Keep w [(w4.heap.size, 0, .int .i64 c), (w4.heap.size, 1, .int .i64 d), (w2.heap.size, 0, .int .i64 a), (w2.heap.size, 1, .int .i64 b), (w.heap.size + 1, 0, .int .i64 u), (w.heap.size + 1, 1, .int .i64 v), (w.heap.size + 1, 2, .bool raw2), (w.heap.size, 0, .int .i64 x), (w.heap.size, 1, .int .i64 y), (w.heap.size, 2, .bool raw)] w8 := Keep.below hb8 K7
  clear hb8
  clear k0 z0 k1 z1 k2 z2 k3 z3 k4 z4 k5 z5 k6 z6 k7 z7 k8 z8 k9 z9
  obtain ⟨⟨k0, z0, k1, z1, k2, z2, k3, z3, k4, z4, k5, z5, k6, z6, k7, z7, k8, z8, k9, z9, _⟩, hB⟩ := id K8
  clear hB
  go_wp2_with fail
  refine (QRQ.out _).mono ?_; rintro e w9 ⟨rfl, hb9⟩
  have K9 : Keep w [(w4.heap.size, 0, .int .i64 c), (w4.heap.size, 1, .int .i64 d), (w2.heap.size, 0, .int .i64 a), (w2.heap.size, 1, .int .i64 b), (w.heap.size + 1, 0, .int .i64 u), (w.heap.size + 1, 1, .int .i64 v), (w.heap.size + 1, 2, .bool raw2), (w.heap.size, 0, .int .i64 x), (w.heap.size, 1, .int .i64 y), (w.heap.size, 2, .bool raw)] w9 := Keep.below hb9 K8
  clear hb9
  clear k0 z0 k1 z1 k2 z2 k3 z3 k4 z4 k5 z5 k6 z6 k7 z7 k8 z8 k9 z9
  obtain ⟨⟨k0, z0, k1, z1, k2, z2, k3, z3, k4, z4, k5, z5, k6, z6, k7, z7, k8, z8, k9, z9, _⟩, hB⟩ := id K9
  clear hB
  go_wp2_with fail
  refine (QT2.out _).mono ?_; rintro e w10 ⟨rfl, hb10⟩
  have K10 : Keep w [(w9.heap.size, 0, .int .i64 (quo a b c d).1.1), (w9.heap.size, 1, .int .i64 (quo a b c d).1.2), (w4.heap.size, 0, .int .i64 c), (w4.heap.size, 1, .int .i64 d), (w2.heap.size, 0, .int .i64 a), (w2.heap.size, 1, .int .i64 b), (w.heap.size + 1, 0, .int .i64 u), (w.heap.size + 1, 1, .int .i64 v), (w.heap.size + 1, 2, .bool raw2), (w.heap.size, 0, .int .i64 x), (w.heap.size, 1, .int .i64 y), (w.heap.size, 2, .bool raw)] w10 := Keep.below hb10 (Keep.alloc2 (k := w9.heap.size) _ _ 32 (by simp) K9)
  clear hb10
  clear k0 z0 k1 z1 k2 z2 k3 z3 k4 z4 k5 z5 k6 z6 k7 z7 k8 z8 k9 z9
  obtain ⟨⟨k0, z0, k1, z1, k2, z2, k3, z3, k4, z4, k5, z5, k6, z6, k7, z7, k8, z8, k9, z9, k10, z10, k11, z11, _⟩, hB⟩ := id K10
  clear hB
  go_wp2_with fail
  refine (QRL.out _).mono ?_; rintro e w11 ⟨rfl, hb11⟩
  have K11 : Keep w [(w9.heap.size, 0, .int .i64 (quo a b c d).1.1), (w9.heap.size, 1, .int .i64 (quo a b c d).1.2), (w4.heap.size, 0, .int .i64 c), (w4.heap.size, 1, .int .i64 d), (w2.heap.size, 0, .int .i64 a), (w2.heap.size, 1, .int .i64 b), (w.heap.size + 1, 0, .int .i64 u), (w.heap.size + 1, 1, .int .i64 v), (w.heap.size + 1, 2, .bool raw2), (w.heap.size, 0, .int .i64 x), (w.heap.size, 1, .int .i64 y), (w.heap.size, 2, .bool raw)] w11 := Keep.below hb11 K10
  clear hb11
  clear k0 z0 k1 z1 k2 z2 k3 z3 k4 z4 k5 z5 k6 z6 k7 z7 k8 z8 k9 z9 k10 z10 k11 z11
  obtain ⟨⟨k0, z0, k1, z1, k2, z2, k3, z3, k4, z4, k5, z5, k6, z6, k7, z7, k8, z8, k9, z9, k10, z10, k11, z11, _⟩, hB⟩ := id K11
  clear hB
  go_wp2_with fail
  go_ret
  exact ⟨rfl, And.right K11⟩
theorem quos_any (x y : Int) (raw : Bool) (u v : Int) (raw2 : Bool) (w : World) :
    Calls Tryd.prog 8 #[.agg #[.int .i64 x, .int .i64 y, .bool raw], .agg #[.int .i64 u, .int .i64 v, .bool raw2]] w fun e w' => e = .returned (.bool true) ∧ Below w.heap.size w w' := by
  cases h : numC (zw raw x) (zw raw y) with
  | none => cases h2 : numC (zw raw2 u) (zw raw2 v) with
            | none => exact quos_nn x y raw u v raw2 h h2 w
            | some p => exact quos_ns x y raw u v raw2 p.1 p.2 h h2 w
  | some q => cases h2 : numC (zw raw2 u) (zw raw2 v) with
              | none => exact quos_sn x y raw u v raw2 q.1 q.2 h h2 w
              | some p => exact quos_ss x y raw u v raw2 q.1 q.2 p.1 p.2 h h2 w
end Go.Proofs.YtipcjffbjkpmbaaDoor

