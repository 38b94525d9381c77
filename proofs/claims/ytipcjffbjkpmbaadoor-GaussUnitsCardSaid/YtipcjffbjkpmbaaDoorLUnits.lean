/- The walk of GaussUnits: whatever the argument, true. -/
import Derived.Test.YtipcjffbjkpmbaaDoorLOrder
import Derived.LoopTactic
namespace Go.Proofs.YtipcjffbjkpmbaaDoor
open Go.RowKit Flo
set_option maxRecDepth 100000 in
set_option maxHeartbeats 4000000 in
theorem units_bad (x y : Int) (raw : Bool) (h : numC (zw raw x) (zw raw y) = none) (w : World) :
    Calls Tryd.prog 7 #[.agg #[.int .i64 x, .int .i64 y, .bool raw]] w fun e w' => e = .returned (.bool true) ∧ Below w.heap.size w w' := by
  have QV := Lib.hid (fun w => valid_none (zw_lt raw x) (zw_lt raw y) h w)
  have QQ := Lib.hid (fun w => quo_shp (r := 4607182418800017408) (s := 0) (zw_lt raw x) (zw_lt raw y) (by decide) (by decide) (.inl h) w)
  clear h
  go_enter Tryd.func7, Tryd.ntmps7
  go_wp2_with fail
  refine (awake_any _).mono ?_; rintro e w' ⟨rfl, rfl⟩
  go_wp2_with fail
  refine (z_any _ _ _ _).mono ?_; rintro e w1 ⟨rfl, hb1⟩
  have K1 := Keep.below hb1 (Keep.alloc _ (Keep.start w))
  clear hb1
  go_wp2_with fail
  refine (QV.out _).mono ?_; rintro e w' ⟨rfl, rfl⟩
  go_wp2_with fail
  refine (QQ.out _).mono ?_; rintro e w' ⟨rfl, rfl⟩
  go_wp2_with fail
  go_ret
  exact ⟨rfl, And.right K1⟩
/-- a number divided by a unit, over and over -/
def rotR (c d a b : Int) : Nat → Int × Int
  | 0 => (a, b)
  | j + 1 => ((rotR c d a b j).1 * c + (rotR c d a b j).2 * d, (rotR c d a b j).2 * c - (rotR c d a b j).1 * d)
theorem rot_rng {c d a b : Int} (hu : (c = 1 ∨ c = -1) ∧ d = 0 ∨ c = 0 ∧ (d = 1 ∨ d = -1)) (h : okR a b = true) : ∀ j, okR (rotR c d a b j).1 (rotR c d a b j).2 = true
  | 0 => h
  | j + 1 => by
    have ih := okR_iff.1 (rot_rng hu h j)
    rw [show (rotR c d a b (j + 1)).1 = (rotR c d a b j).1 * c + (rotR c d a b j).2 * d from rfl, show (rotR c d a b (j + 1)).2 = (rotR c d a b j).2 * c - (rotR c d a b j).1 * d from rfl]
    refine okR_iff.2 ?_
    generalize (rotR c d a b j).1 = p at *
    generalize (rotR c d a b j).2 = q at *
    rcases hu with ⟨rfl | rfl, rfl⟩ | ⟨rfl, rfl | rfl⟩ <;> omega
theorem rot_four {c d a b : Int} (hu : (c = 1 ∨ c = -1) ∧ d = 0 ∨ c = 0 ∧ (d = 1 ∨ d = -1)) : rotR c d a b 4 = (a, b) := by
  rcases hu with ⟨rfl | rfl, rfl⟩ | ⟨rfl, rfl | rfl⟩ <;> simp [rotR]
theorem rot_quo {c d p q : Int} (hu : (c = 1 ∨ c = -1) ∧ d = 0 ∨ c = 0 ∧ (d = 1 ∨ d = -1)) (h : okR (p * c + q * d) (q * c - p * d) = true) : quo p q c d = ((p * c + q * d, q * c - p * d), 0) := by
  have e1 : c * c + d * d = 1 := by rcases hu with ⟨rfl | rfl, rfl⟩ | ⟨rfl, rfl | rfl⟩ <;> rfl
  have e0 : ¬ (c = 0 ∧ d = 0) := by rcases hu with ⟨rfl | rfl, rfl⟩ | ⟨rfl, rfl | rfl⟩ <;> simp
  rw [quo_yes e0 (by rw [e1]; exact ⟨Int.tmod_one _, Int.tmod_one _⟩), e1, Int.tdiv_one, Int.tdiv_one, bnd_pos h]
theorem rot_mul {c d p q : Int} (hu : (c = 1 ∨ c = -1) ∧ d = 0 ∨ c = 0 ∧ (d = 1 ∨ d = -1)) (h : okR p q = true) :
    bnd ((p * c + q * d) * c - (q * c - p * d) * d) ((p * c + q * d) * d + (q * c - p * d) * c) = ((p, q), 0) := by
  have e1 : (p * c + q * d) * c - (q * c - p * d) * d = p := by rcases hu with ⟨rfl | rfl, rfl⟩ | ⟨rfl, rfl | rfl⟩ <;> omega
  have e2 : (p * c + q * d) * d + (q * c - p * d) * c = q := by rcases hu with ⟨rfl | rfl, rfl⟩ | ⟨rfl, rfl | rfl⟩ <;> omega
  rw [e1, e2, bnd_pos h]
/-- what the inner loop wants of a unit -/
theorem unit_R {a b : Int} (h : okR a b = true) (c d : Int) (l m : Nat) (hl : W c = l) (hm : W d = m) (hu : (c = 1 ∨ c = -1) ∧ d = 0 ∨ c = 0 ∧ (d = 1 ∨ d = -1)) :
    ∃ R : Nat → Int × Int, R 0 = (a, b) ∧ R 4 = (a, b) ∧
      (∀ j w, Calls Tryd.prog 28 #[.complex .f64 (W (R j).1) (W (R j).2), .complex .f64 l m] w fun e w' => e = .returned (.tuple #[.complex .f64 (W (R (j + 1)).1) (W (R (j + 1)).2), .int .i64 0]) ∧ w = w') ∧
      (∀ j w, Calls Tryd.prog 19 #[.complex .f64 (W (R (j + 1)).1) (W (R (j + 1)).2), .complex .f64 l m] w fun e w' => e = .returned (.tuple #[.complex .f64 (W (R j).1) (W (R j).2), .int .i64 0]) ∧ w = w') := by
  subst hl hm
  have hcd : okR c d = true := by rcases hu with ⟨rfl | rfl, rfl⟩ | ⟨rfl, rfl | rfl⟩ <;> rfl
  refine ⟨rotR c d a b, rfl, rot_four hu, fun j w => ?_, fun j w => ?_⟩
  · have q := quo_some (W_lt' _) (W_lt' _) (W_lt' _) (W_lt' _) (numC_R (rot_rng hu h j)) (numC_R hcd) w
    rw [rot_quo hu (rot_rng hu h (j + 1))] at q
    exact q
  · have q := mul_bnd (W_lt' _) (W_lt' _) (W_lt' _) (W_lt' _) (numC_R (rot_rng hu h (j + 1))) (numC_R hcd) w
    have e := rot_mul hu (rot_rng hu h j)
    rw [show (rotR c d a b (j + 1)).1 = (rotR c d a b j).1 * c + (rotR c d a b j).2 * d from rfl, show (rotR c d a b (j + 1)).2 = (rotR c d a b j).2 * c - (rotR c d a b j).1 * d from rfl, e] at q
    exact q
theorem quo_self {a b : Int} (h : ¬ (a = 0 ∧ b = 0)) : quo a b a b = ((1, 0), 0) := by
  have hp := sq_pos h
  have e : b * a - a * b = 0 := by rw [Int.mul_comm b a]; omega
  rw [quo_yes h ⟨Int.tmod_self, by rw [e]; exact Int.zero_tmod _⟩, e, Int.zero_tdiv, Int.tdiv_self (by omega)]; rfl
theorem quo_of0 {a b : Int} (h : ¬ (a = 0 ∧ b = 0)) : quo 0 0 a b = ((0, 0), 0) := by
  rw [quo_yes h (by simp)]; simp; rfl
set_option maxRecDepth 100000 in
set_option maxHeartbeats 8000000 in
theorem units_ok (x y : Int) (raw : Bool) (a b : Int) (h : numC (zw raw x) (zw raw y) = some (a, b)) (w : World) :
    Calls Tryd.prog 7 #[.agg #[.int .i64 x, .int .i64 y, .bool raw]] w fun e w' => e = .returned (.bool true) ∧ Below w.heap.size w w' := by
  have QZ := Lib.hid (fun w => z_some h w)
  have ka := okR_of h
  have QV := Lib.hid (fun w => valid_W ka w)
  have KA := Lib.hid ka
  clear h ka
  go_enter Tryd.func7, Tryd.ntmps7
  go_wp2_with fail
  refine (awake_any _).mono ?_; rintro e w' ⟨rfl, rfl⟩
  go_wp2_with fail
  refine (QZ.out _).mono ?_; rintro e w1 ⟨rfl, hb1⟩
  have K1 := Keep.below hb1 (Keep.alloc _ (Keep.start w))
  clear hb1
  go_wp2_with fail
  refine (QV.out _).mono ?_; rintro e w' ⟨rfl, rfl⟩
  go_wp2_with fail
  have HE := Lib.hid (show ∀ R : Nat → Int × Int, R 4 = (a, b) → ∀ w, Calls Tryd.prog 13 #[.complex .f64 (W (R 4).1) (W (R 4).2), .complex .f64 (W a) (W b)] w fun e w' => e = .returned (.bool true) ∧ w = w' from fun R h w => by rw [h]; exact bits_self _ _ w)
  go_loop [36] (fun i => ∃ k : Nat, k ≤ 4 ∧ i = .int .i64 k) (fun i => 4 - (intOf i).toNat)
  case atStart => exact ⟨0, by omega, rfl⟩
  case round =>
    obtain ⟨k, hk, rfl⟩ := hrel
    have hcases : k = 0 ∨ k = 1 ∨ k = 2 ∨ k = 3 ∨ k = 4 := by omega
    clear hk
    rcases hcases with rfl | rfl | rfl | rfl | rfl
    · obtain ⟨R, hR0, hR4, hQ, hM⟩ := unit_R KA.out 1 0 4607182418800017408 0 (by decide +kernel) (by decide +kernel) (.inl ⟨.inl rfl, rfl⟩)
      have HR0 := Lib.hid hR0; have HQ := Lib.hid hQ; have HM := Lib.hid hM; have HF := Lib.hid (HE.out R hR4); clear hR0 hR4 hQ hM
      go_wp2_with fail
      go_loop [8, 9] (fun q i => ∃ j : Nat, j ≤ 4 ∧ i = .int .i64 j ∧ q = .complex .f64 (W (R j).1) (W (R j).2)) (fun _ i => 4 - (intOf i).toNat)
      case atStart => exact ⟨0, by omega, rfl, by rw [HR0.out]⟩
      case round =>
        obtain ⟨j, hj, rfl, rfl⟩ := hrel
        by_cases hlt : j < 4
        · go_wp2_with fail
          refine (HQ.out _ _).mono ?_; rintro e w' ⟨rfl, rfl⟩
          go_wp2_with fail
          refine (HM.out _ _).mono ?_; rintro e w' ⟨rfl, rfl⟩
          go_wp2_with fail
          refine (bits_self _ _ _).mono ?_; rintro e w' ⟨rfl, rfl⟩
          go_wp2_with fail
          go_round
          case rel => exact ⟨j + 1, by omega, by go_num, rfl⟩
          case measure => simp [intOf]; omega
        · obtain rfl : j = 4 := by omega
          go_wp2_with fail
          refine (HF.out _).mono ?_; rintro e w' ⟨rfl, rfl⟩
          go_wp2_with fail
          go_round
          case rel => exact ⟨0 + 1, by omega, by go_num⟩
          case measure => simp [intOf]
    · obtain ⟨R, hR0, hR4, hQ, hM⟩ := unit_R KA.out (-1) 0 13830554455654793216 0 (by decide +kernel) (by decide +kernel) (.inl ⟨.inr rfl, rfl⟩)
      have HR0 := Lib.hid hR0; have HQ := Lib.hid hQ; have HM := Lib.hid hM; have HF := Lib.hid (HE.out R hR4); clear hR0 hR4 hQ hM
      go_wp2_with fail
      go_loop [8, 9] (fun q i => ∃ j : Nat, j ≤ 4 ∧ i = .int .i64 j ∧ q = .complex .f64 (W (R j).1) (W (R j).2)) (fun _ i => 4 - (intOf i).toNat)
      case atStart => exact ⟨0, by omega, rfl, by rw [HR0.out]⟩
      case round =>
        obtain ⟨j, hj, rfl, rfl⟩ := hrel
        by_cases hlt : j < 4
        · go_wp2_with fail
          refine (HQ.out _ _).mono ?_; rintro e w' ⟨rfl, rfl⟩
          go_wp2_with fail
          refine (HM.out _ _).mono ?_; rintro e w' ⟨rfl, rfl⟩
          go_wp2_with fail
          refine (bits_self _ _ _).mono ?_; rintro e w' ⟨rfl, rfl⟩
          go_wp2_with fail
          go_round
          case rel => exact ⟨j + 1, by omega, by go_num, rfl⟩
          case measure => simp [intOf]; omega
        · obtain rfl : j = 4 := by omega
          go_wp2_with fail
          refine (HF.out _).mono ?_; rintro e w' ⟨rfl, rfl⟩
          go_wp2_with fail
          go_round
          case rel => exact ⟨1 + 1, by omega, by go_num⟩
          case measure => simp [intOf]
    · obtain ⟨R, hR0, hR4, hQ, hM⟩ := unit_R KA.out 0 1 0 4607182418800017408 (by decide +kernel) (by decide +kernel) (.inr ⟨rfl, .inl rfl⟩)
      have HR0 := Lib.hid hR0; have HQ := Lib.hid hQ; have HM := Lib.hid hM; have HF := Lib.hid (HE.out R hR4); clear hR0 hR4 hQ hM
      go_wp2_with fail
      go_loop [8, 9] (fun q i => ∃ j : Nat, j ≤ 4 ∧ i = .int .i64 j ∧ q = .complex .f64 (W (R j).1) (W (R j).2)) (fun _ i => 4 - (intOf i).toNat)
      case atStart => exact ⟨0, by omega, rfl, by rw [HR0.out]⟩
      case round =>
        obtain ⟨j, hj, rfl, rfl⟩ := hrel
        by_cases hlt : j < 4
        · go_wp2_with fail
          refine (HQ.out _ _).mono ?_; rintro e w' ⟨rfl, rfl⟩
          go_wp2_with fail
          refine (HM.out _ _).mono ?_; rintro e w' ⟨rfl, rfl⟩
          go_wp2_with fail
          refine (bits_self _ _ _).mono ?_; rintro e w' ⟨rfl, rfl⟩
          go_wp2_with fail
          go_round
          case rel => exact ⟨j + 1, by omega, by go_num, rfl⟩
          case measure => simp [intOf]; omega
        · obtain rfl : j = 4 := by omega
          go_wp2_with fail
          refine (HF.out _).mono ?_; rintro e w' ⟨rfl, rfl⟩
          go_wp2_with fail
          go_round
          case rel => exact ⟨2 + 1, by omega, by go_num⟩
          case measure => simp [intOf]
    · obtain ⟨R, hR0, hR4, hQ, hM⟩ := unit_R KA.out 0 (-1) 0 13830554455654793216 (by decide +kernel) (by decide +kernel) (.inr ⟨rfl, .inr rfl⟩)
      have HR0 := Lib.hid hR0; have HQ := Lib.hid hQ; have HM := Lib.hid hM; have HF := Lib.hid (HE.out R hR4); clear hR0 hR4 hQ hM
      go_wp2_with fail
      go_loop [8, 9] (fun q i => ∃ j : Nat, j ≤ 4 ∧ i = .int .i64 j ∧ q = .complex .f64 (W (R j).1) (W (R j).2)) (fun _ i => 4 - (intOf i).toNat)
      case atStart => exact ⟨0, by omega, rfl, by rw [HR0.out]⟩
      case round =>
        obtain ⟨j, hj, rfl, rfl⟩ := hrel
        by_cases hlt : j < 4
        · go_wp2_with fail
          refine (HQ.out _ _).mono ?_; rintro e w' ⟨rfl, rfl⟩
          go_wp2_with fail
          refine (HM.out _ _).mono ?_; rintro e w' ⟨rfl, rfl⟩
          go_wp2_with fail
          refine (bits_self _ _ _).mono ?_; rintro e w' ⟨rfl, rfl⟩
          go_wp2_with fail
          go_round
          case rel => exact ⟨j + 1, by omega, by go_num, rfl⟩
          case measure => simp [intOf]; omega
        · obtain rfl : j = 4 := by omega
          go_wp2_with fail
          refine (HF.out _).mono ?_; rintro e w' ⟨rfl, rfl⟩
          go_wp2_with fail
          go_round
          case rel => exact ⟨3 + 1, by omega, by go_num⟩
          case measure => simp [intOf]
    · have q0 := fun w => quo_some (W_lt' a) (W_lt' b) (W_lt' 0) (W_lt' 0) (numC_R KA.out) (numC_R (a := 0) (b := 0) rfl) w
      rw [quo_zero ⟨rfl, rfl⟩] at q0
      simp only [W0] at q0
      have Q0 := Lib.hid q0; clear q0
      have z1 := ord_0_eq (okR_iff.1 KA.out).1; have z2 := ord_0_eq (okR_iff.1 KA.out).2
      by_cases h0 : a = 0 ∧ b = 0
      · have zz : (FloatKind.f64.format.order (W a) 0 == some Ordering.eq && FloatKind.f64.format.order (W b) 0 == some Ordering.eq) = true := by rw [z1, z2]; simp [h0]
        clear z1 z2 h0
        go_wp2_with fail
        refine (Q0.out _).mono ?_; rintro e w' ⟨rfl, rfl⟩
        go_wp2_with fail
        go_ret
        exact ⟨rfl, And.right (Keep.alloc _ K1)⟩
      · have zz : (FloatKind.f64.format.order (W a) 0 == some Ordering.eq && FloatKind.f64.format.order (W b) 0 == some Ordering.eq) = false := by rw [z1, z2]; by_cases h5 : a = 0 <;> by_cases h6 : b = 0 <;> simp_all
        have q1 := fun w => quo_some (W_lt' a) (W_lt' b) (W_lt' a) (W_lt' b) (numC_R KA.out) (numC_R KA.out) w
        rw [quo_self h0] at q1
        have q2 := fun w => quo_some (W_lt' 0) (W_lt' 0) (W_lt' a) (W_lt' b) (numC_R (a := 0) (b := 0) rfl) (numC_R KA.out) w
        rw [quo_of0 h0] at q2
        simp only [W0] at q1 q2
        rw [show W 1 = 4607182418800017408 from by decide +kernel] at q1
        have Q1 := Lib.hid q1; have Q2 := Lib.hid q2
        clear z1 z2 h0 q1 q2
        go_wp2_with fail
        refine (Q0.out _).mono ?_; rintro e w' ⟨rfl, rfl⟩
        go_wp2_with fail
        refine (Q1.out _).mono ?_; rintro e w' ⟨rfl, rfl⟩
        go_wp2_with fail
        refine (Q2.out _).mono ?_; rintro e w' ⟨rfl, rfl⟩
        go_wp2_with fail
        refine (bits_self _ _ _).mono ?_; rintro e w' ⟨rfl, rfl⟩
        go_wp2_with fail
        refine (bits_self _ _ _).mono ?_; rintro e w' ⟨rfl, rfl⟩
        go_wp2_with fail
        go_ret
        exact ⟨rfl, And.right (Keep.alloc _ K1)⟩
theorem units_any (x y : Int) (raw : Bool) (w : World) :
    Calls Tryd.prog 7 #[.agg #[.int .i64 x, .int .i64 y, .bool raw]] w fun e w' => e = .returned (.bool true) ∧ Below w.heap.size w w' := by
  cases h : numC (zw raw x) (zw raw y) with
  | none => exact units_bad x y raw h w
  | some p => exact units_ok x y raw p.1 p.2 h w
end Go.Proofs.YtipcjffbjkpmbaaDoor
