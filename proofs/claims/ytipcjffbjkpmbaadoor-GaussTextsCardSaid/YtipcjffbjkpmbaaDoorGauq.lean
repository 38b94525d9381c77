/- What Quo, Conj and Less of the package gauss answer. -/
import Derived.Test.YtipcjffbjkpmbaaDoorGau
namespace Go.Proofs.YtipcjffbjkpmbaaDoor
open Go.RowKit Flo
set_option maxHeartbeats 400000 in
theorem conj_any (a b : Nat) (ha : a < 18446744073709551616) (hb : b < 18446744073709551616) (w : World) :
    Calls Tryd.prog 27 #[.complex .f64 a b] w fun e w' => e = .returned (.tuple #[.complex .f64 (W (gConj (numC a b)).1.1) (W (gConj (numC a b)).1.2), .int .i64 (gConj (numC a b)).2]) ∧ w = w' := by
  have q := fun w => valid_any a b ha hb w
  have Q := Lib.hid q; clear q ha hb
  cases h : numC a b with
  | none =>
    rw [h] at Q
    have HN := Lib.hid (show gConj none = shp from rfl)
    go_enter Tryd.func27, Tryd.ntmps27
    go_wp2_with fail
    refine (Q.out _).mono ?_; rintro e w' ⟨rfl, rfl⟩
    go_wp2_with fail
    go_ret2
    exact ⟨ret2 (by rw [HN.out]; unfold shp; rw [W0]; rfl), rfl⟩
  | some p =>
    rw [h] at Q
    obtain ⟨x, y⟩ := p
    obtain ⟨h1, h2⟩ := numC_some h
    have g1 := numOf_rng h1; have g2 := numOf_rng h2
    obtain rfl := numOf_eq h1; obtain rfl := numOf_eq h2
    have HB := Lib.hid (show bnd x (-y) = gConj (some (x, y)) from bnd_pos (okR_iff.2 (by omega)))
    have q3 := fun w => bound_w (x := x) (y := -y) (by omega) (by omega) (W_isW x) (neg_w (by omega) (W_isW y)) w
    rw [HB.out] at q3
    have Q3 := Lib.hid q3; clear q3 h h1 h2 g1 g2
    go_enter Tryd.func27, Tryd.ntmps27
    go_wp2_with fail
    refine (Q.out _).mono ?_; rintro e w' ⟨rfl, rfl⟩
    go_wp2_with fail
    refine (Q3.out _).mono ?_; rintro e w' ⟨rfl, rfl⟩
    go_wp2_with fail
    go_ret2
    exact ⟨ret2 rfl, rfl⟩
theorem ne_of_eqB {a b : Nat} {c : Bool} (h : (FloatKind.f64.format.order a b == some Ordering.eq) = c) : (FloatKind.f64.format.order a b != some Ordering.eq) = !c := by
  show (!(FloatKind.f64.format.order a b == some Ordering.eq)) = _; rw [h]
theorem ord_W_eq {a b : Int} (ha : -16777216 ≤ a ∧ a ≤ 16777216) (hb : -16777216 ≤ b ∧ b ≤ 16777216) : (FloatKind.f64.format.order (W a) (W b) == some Ordering.eq) = decide (a = b) := by
  rw [show FloatKind.f64.format.order (W a) (W b) = _ from ord_W (by omega) (by omega), cmp_eq]
theorem ord_W_lt {a b : Int} (ha : -16777216 ≤ a ∧ a ≤ 16777216) (hb : -16777216 ≤ b ∧ b ≤ 16777216) : (FloatKind.f64.format.order (W a) (W b) == some Ordering.lt) = decide (a < b) := by
  rw [show FloatKind.f64.format.order (W a) (W b) = _ from ord_W (by omega) (by omega), cmp_lt]
set_option maxHeartbeats 400000 in
theorem less_any (a b c d : Nat) (ha : a < 18446744073709551616) (hb : b < 18446744073709551616) (hc : c < 18446744073709551616) (hd : d < 18446744073709551616) (w : World) :
    Calls Tryd.prog 26 #[.complex .f64 a b, .complex .f64 c d] w fun e w' => e = .returned (.tuple #[.bool (gLess (numC a b) (numC c d)).1, .int .i64 (gLess (numC a b) (numC c d)).2]) ∧ w = w' := by
  have q1 := fun w => valid_any a b ha hb w
  have q2 := fun w => valid_any c d hc hd w
  have Q1 := Lib.hid q1; have Q2 := Lib.hid q2; clear q1 q2 ha hb hc hd
  have HN := Lib.hid (show gLess none (numC c d) = (false, 3) from rfl)
  cases h : numC a b with
  | none =>
    rw [h] at Q1
    go_enter Tryd.func26, Tryd.ntmps26
    go_wp2_with fail
    refine (Q1.out _).mono ?_; rintro e w' ⟨rfl, rfl⟩
    go_wp2_with fail
    go_ret2
    exact ⟨ret2 (by rw [HN.out]; rfl), rfl⟩
  | some p =>
    rw [h] at Q1
    obtain ⟨x, y⟩ := p
    obtain ⟨h1, h2⟩ := numC_some h
    have g1 := numOf_rng h1; have g2 := numOf_rng h2
    obtain rfl := numOf_eq h1; obtain rfl := numOf_eq h2
    clear h h1 h2
    cases h : numC c d with
    | none =>
      rw [h] at Q2
      clear HN
      have HN := Lib.hid (show gLess (some (x, y)) none = (false, 3) from rfl)
      clear g1 g2 h
      go_enter Tryd.func26, Tryd.ntmps26
      go_wp2_with fail
      refine (Q1.out _).mono ?_; rintro e w' ⟨rfl, rfl⟩
      go_wp2_with fail
      refine (Q2.out _).mono ?_; rintro e w' ⟨rfl, rfl⟩
      go_wp2_with fail
      go_ret2
      exact ⟨ret2 (by rw [HN.out]; rfl), rfl⟩
    | some p =>
      rw [h] at Q2
      obtain ⟨u, v⟩ := p
      obtain ⟨h1, h2⟩ := numC_some h
      have g3 := numOf_rng h1; have g4 := numOf_rng h2
      obtain rfl := numOf_eq h1; obtain rfl := numOf_eq h2
      have e1 := ne_of_eqB (ord_W_eq g1 g3)
      have e2 := ord_W_lt g1 g3
      have e3 := ord_W_lt g2 g4
      clear HN
      clear h h1 h2 g1 g2 g3 g4
      by_cases hxu : x = u
      · have HN := Lib.hid (show gLess (some (x, y)) (some (u, v)) = (decide (y < v), 0) by unfold gLess; simp only [Prod.mk.injEq, and_true, decide_eq_decide]; omega)
        rw [decide_eq_true hxu, Bool.not_true] at e1
        clear hxu e2
        go_enter Tryd.func26, Tryd.ntmps26
        go_wp2_with fail
        refine (Q1.out _).mono ?_; rintro e w' ⟨rfl, rfl⟩
        go_wp2_with fail
        refine (Q2.out _).mono ?_; rintro e w' ⟨rfl, rfl⟩
        go_wp2_with fail
        go_ret2
        exact ⟨ret2 (by rw [HN.out]; rfl), rfl⟩
      · have HN := Lib.hid (show gLess (some (x, y)) (some (u, v)) = (decide (x < u), 0) by unfold gLess; simp only [Prod.mk.injEq, and_true, decide_eq_decide]; omega)
        rw [decide_eq_false hxu, Bool.not_false] at e1
        clear hxu e3
        go_enter Tryd.func26, Tryd.ntmps26
        go_wp2_with fail
        refine (Q1.out _).mono ?_; rintro e w' ⟨rfl, rfl⟩
        go_wp2_with fail
        refine (Q2.out _).mono ?_; rintro e w' ⟨rfl, rfl⟩
        go_wp2_with fail
        go_ret2
        exact ⟨ret2 (by rw [HN.out]; rfl), rfl⟩
theorem ord_0_eq {a : Int} (ha : -16777216 ≤ a ∧ a ≤ 16777216) : (FloatKind.f64.format.order (W a) 0 == some Ordering.eq) = decide (a = 0) := by
  have := ord_W_eq (a := a) (b := 0) ha (by decide); rwa [W0] at this
theorem ord_0_w {x : Nat} {a : Int} (ha : a.natAbs ≤ 4503599627370496) (hx : IsW x a) : (FloatKind.f64.format.order x 0 == some Ordering.eq) = decide (a = 0) := by
  have := order_w (b := 0) (by omega) (by decide) hx (W_isW 0)
  rw [W0] at this; rw [this, cmp_eq]
theorem sq_pos {u v : Int} (h : ¬ (u = 0 ∧ v = 0)) : 0 < u * u + v * v := by
  have h1 : 0 ≤ u * u := by
    rcases Int.le_total 0 u with h | h
    · exact Int.mul_nonneg h h
    · exact Int.mul_nonneg_of_nonpos_of_nonpos h h
  have h2 : 0 ≤ v * v := by
    rcases Int.le_total 0 v with h | h
    · exact Int.mul_nonneg h h
    · exact Int.mul_nonneg_of_nonpos_of_nonpos h h
  rcases Int.lt_trichotomy (u * u + v * v) 0 with h3 | h3 | h3
  · omega
  · have e1 : u * u = 0 := by omega
    have e2 : v * v = 0 := by omega
    exact absurd ⟨by rcases Int.mul_eq_zero.1 e1 with h | h <;> exact h, by rcases Int.mul_eq_zero.1 e2 with h | h <;> exact h⟩ h
  · exact h3
theorem tmod_zero {X n : Int} (h : X.tmod n = 0) : n * X.tdiv n = X := by
  have := Int.mul_tdiv_add_tmod X n; omega
theorem tdiv_bd {X n : Int} (h : X.natAbs ≤ 4503599627370496) : (X.tdiv n).natAbs ≤ 4503599627370496 := by
  have : (X.tdiv n).natAbs ≤ X.natAbs := by rw [Int.natAbs_tdiv]; exact Nat.div_le_self _ _
  omega
set_option maxRecDepth 100000 in
set_option maxHeartbeats 1000000 in
theorem quo_any (a b c d : Nat) (ha : a < 18446744073709551616) (hb : b < 18446744073709551616) (hc : c < 18446744073709551616) (hd : d < 18446744073709551616) (w : World) :
    Calls Tryd.prog 28 #[.complex .f64 a b, .complex .f64 c d] w fun e w' => e = .returned (.tuple #[.complex .f64 (W (gQuo (numC a b) (numC c d)).1.1) (W (gQuo (numC a b) (numC c d)).1.2), .int .i64 (gQuo (numC a b) (numC c d)).2]) ∧ w = w' := by
  have q1 := fun w => valid_any a b ha hb w
  have q2 := fun w => valid_any c d hc hd w
  have Q1 := Lib.hid q1; have Q2 := Lib.hid q2; clear q1 q2 ha hb hc hd
  have HN := Lib.hid (show gQuo none (numC c d) = shp from rfl)
  cases h : numC a b with
  | none =>
    rw [h] at Q1
    go_enter Tryd.func28, Tryd.ntmps28
    go_wp2_with fail
    refine (Q1.out _).mono ?_; rintro e w' ⟨rfl, rfl⟩
    go_wp2_with fail
    go_ret2
    exact ⟨ret2 (by rw [HN.out]; unfold shp; rw [W0]; rfl), rfl⟩
  | some p =>
    rw [h] at Q1
    obtain ⟨x, y⟩ := p
    obtain ⟨h1, h2⟩ := numC_some h
    have g1 := numOf_rng h1; have g2 := numOf_rng h2
    obtain rfl := numOf_eq h1; obtain rfl := numOf_eq h2
    clear h h1 h2
    cases h : numC c d with
    | none =>
      rw [h] at Q2
      clear HN
      have HN := Lib.hid (show gQuo (some (x, y)) none = shp from rfl)
      clear g1 g2 h
      go_enter Tryd.func28, Tryd.ntmps28
      go_wp2_with fail
      refine (Q1.out _).mono ?_; rintro e w' ⟨rfl, rfl⟩
      go_wp2_with fail
      refine (Q2.out _).mono ?_; rintro e w' ⟨rfl, rfl⟩
      go_wp2_with fail
      go_ret2
      exact ⟨ret2 (by rw [HN.out]; unfold shp; rw [W0]; rfl), rfl⟩
    | some p =>
      rw [h] at Q2
      obtain ⟨u, v⟩ := p
      obtain ⟨h1, h2⟩ := numC_some h
      have g3 := numOf_rng h1; have g4 := numOf_rng h2
      obtain rfl := numOf_eq h1; obtain rfl := numOf_eq h2
      clear h h1 h2 HN
      have z1 := ord_0_eq g3; have z2 := ord_0_eq g4
      by_cases h0 : u = 0 ∧ v = 0
      · have HN := Lib.hid (show gQuo (some (x, y)) (some (u, v)) = ((0, 0), 51) from if_pos h0)
        rw [decide_eq_true h0.1] at z1; rw [decide_eq_true h0.2] at z2
        clear g1 g2 g3 g4 h0
        go_enter Tryd.func28, Tryd.ntmps28
        go_wp2_with fail
        refine (Q1.out _).mono ?_; rintro e w' ⟨rfl, rfl⟩
        go_wp2_with fail
        refine (Q2.out _).mono ?_; rintro e w' ⟨rfl, rfl⟩
        go_wp2_with fail
        go_ret2
        exact ⟨ret2 (by rw [HN.out]; rw [W0]; rfl), rfl⟩
      · have hn := sq_pos h0
        have zz : (FloatKind.f64.format.order (W u) 0 == some Ordering.eq && FloatKind.f64.format.order (W v) 0 == some Ordering.eq) = false := by
          rw [z1, z2]; by_cases h5 : u = 0 <;> by_cases h6 : v = 0 <;> simp_all
        clear z1 z2
        have hnv := neg_w (x := W v) (a := v) (by omega) (W_isW v)
        obtain ⟨re, im, hs, i1, i2⟩ := cmul_w (x := x) (y := y) (u := u) (v := -v) (by omega) (by omega) (by omega) (by omega) (W_isW x) (W_isW y) (W_isW u) hnv
        obtain ⟨rn, rm, hs', i3, _⟩ := cmul_w (x := u) (y := v) (u := u) (v := -v) (by omega) (by omega) (by omega) (by omega) (W_isW u) (W_isW v) (W_isW u) hnv
        have b1 := mul_bd (a := x) (b := u) (B := 16777216) (by omega) (by omega); have b2 := mul_bd (a := y) (b := v) (B := 16777216) (by omega) (by omega); have b3 := mul_bd (a := x) (b := v) (B := 16777216) (by omega) (by omega); have b4 := mul_bd (a := y) (b := u) (B := 16777216) (by omega) (by omega)
        have b5 := mul_bd (a := u) (b := u) (B := 16777216) (by omega) (by omega); have b6 := mul_bd (a := v) (b := v) (B := 16777216) (by omega) (by omega)
        rw [Int.mul_neg, Int.sub_neg] at i1 i3
        rw [show x * -v + y * u = y * u - x * v from by rw [Int.mul_neg]; omega] at i2
        have HQ := Lib.hid (show gQuo (some (x, y)) (some (u, v)) = _ from if_neg h0)
        obtain ⟨X, hX⟩ : ∃ X, X = x * u + y * v := ⟨_, rfl⟩
        obtain ⟨Y, hY⟩ : ∃ Y, Y = y * u - x * v := ⟨_, rfl⟩
        obtain ⟨n, hN⟩ : ∃ n : Nat, (n : Int) = u * u + v * v := ⟨(u * u + v * v).toNat, by omega⟩
        have hXb : X.natAbs ≤ 4503599627370496 := by omega
        have hYb : Y.natAbs ≤ 4503599627370496 := by omega
        have hnb : n ≤ 4503599627370496 := by omega
        have hn0 : n ≠ 0 := by omega
        rw [← hX] at i1; rw [← hY] at i2; rw [← hN] at i3
        rw [← hX, ← hY, ← hN] at HQ
        clear hX hY hN b1 b2 b3 b4 b5 b6
        obtain rfl : rn = W (n : Int) := by rcases i3 with h | ⟨h, _⟩; exact h; omega
        have r1 := fun w => run_complex_mul (P := Tryd.prog) w 25 _ _ _ _ _ _ hs
        have r2 := fun w => run_complex_mul (P := Tryd.prog) w 25 _ _ _ _ _ _ hs'
        have q3 := fun w => Mod_w hn0 hnb hXb i1 w
        have q4 := fun w => Mod_w hn0 hnb hYb i2 w
        have Q3 := Lib.hid q3; have Q4 := Lib.hid q4
        have mz : ∀ (Z : Int) (r : Nat), Z.natAbs ≤ 4503599627370496 → IsW r (Z.tmod n) → (FloatKind.f64.format.order r 0 != some Ordering.eq) = !decide (Z.tmod n = 0) := by
          intro Z r hZ hr
          refine ne_of_eqB (ord_0_w ?_ hr)
          have := Int.natAbs_tmod Z n
          rw [this]; exact Nat.le_trans (Nat.mod_le _ _) hZ
        have MX := Lib.hid (fun r => mz X r hXb); have MY := Lib.hid (fun r => mz Y r hYb)
        clear q3 q4 mz hs hs' i3 hnv g1 g2 g3 g4 hn
        by_cases hx0 : X.tmod n = 0
        · by_cases hy0 : Y.tmod n = 0
          · rw [if_pos ⟨hx0, hy0⟩] at HQ
            rw [hx0, decide_eq_true rfl, Bool.not_true] at MX
            rw [hy0, decide_eq_true rfl, Bool.not_true] at MY
            rw [hx0] at Q3; rw [hy0] at Q4
            have tX := tmod_zero hx0; have tY := tmod_zero hy0
            obtain ⟨qr, dr, ir⟩ := div_w (b := (n : Int)) (q := X.tdiv n) (by omega) (by have := tdiv_bd (n := (n : Int)) hXb; omega) (by rw [tX]; omega) (by omega) (by rw [tX]; exact i1) (W_isW _)
            obtain ⟨qi, di, ii⟩ := div_w (b := (n : Int)) (q := Y.tdiv n) (by omega) (by have := tdiv_bd (n := (n : Int)) hYb; omega) (by rw [tY]; omega) (by omega) (by rw [tY]; exact i2) (W_isW _)
            have d1 := fun w => run_float_arith (P := Tryd.prog) w .quo 30 .f64 _ _ _ dr
            have d2 := fun w => run_float_arith (P := Tryd.prog) w .quo 30 .f64 _ _ _ di
            have q5 := fun w => bound_w (tdiv_bd (n := (n : Int)) hXb) (tdiv_bd (n := (n : Int)) hYb) ir ii w
            have Q5 := Lib.hid q5
            clear q5 tX tY dr di ir ii hx0 hy0 hXb hYb hnb hn0 i1 i2 h0
            go_enter Tryd.func28, Tryd.ntmps28
            go_wp2_with fail
            refine (Q1.out _).mono ?_; rintro e w' ⟨rfl, rfl⟩
            go_wp2_with fail
            refine (Q2.out _).mono ?_; rintro e w' ⟨rfl, rfl⟩
            go_wp2_with fail
            refine (Q3.out _).mono ?_; rintro e w' ⟨r3, rfl, hr3, rfl⟩
            have f3 := MX.out _ hr3; clear hr3
            go_wp2_with fail
            refine (Q4.out _).mono ?_; rintro e w' ⟨r4, rfl, hr4, rfl⟩
            have f4 := MY.out _ hr4; clear hr4
            go_wp2_with fail
            refine (Q5.out _).mono ?_; rintro e w' ⟨rfl, rfl⟩
            go_wp2_with fail
            go_ret2
            exact ⟨ret2 (by rw [HQ.out]; rfl), rfl⟩
          · rw [if_neg (fun h => hy0 h.2)] at HQ
            rw [hx0, decide_eq_true rfl, Bool.not_true] at MX
            rw [decide_eq_false hy0, Bool.not_false] at MY
            rw [hx0] at Q3
            clear hx0 hy0 hXb hYb hnb hn0 i1 i2 h0
            go_enter Tryd.func28, Tryd.ntmps28
            go_wp2_with fail
            refine (Q1.out _).mono ?_; rintro e w' ⟨rfl, rfl⟩
            go_wp2_with fail
            refine (Q2.out _).mono ?_; rintro e w' ⟨rfl, rfl⟩
            go_wp2_with fail
            refine (Q3.out _).mono ?_; rintro e w' ⟨r3, rfl, hr3, rfl⟩
            have f3 := MX.out _ hr3; clear hr3
            go_wp2_with fail
            refine (Q4.out _).mono ?_; rintro e w' ⟨r4, rfl, hr4, rfl⟩
            have f4 := MY.out _ hr4; clear hr4
            go_wp2_with fail
            go_ret2
            exact ⟨ret2 (by rw [HQ.out, W0]; rfl), rfl⟩
        · rw [if_neg (fun h => hx0 h.1)] at HQ
          rw [decide_eq_false hx0, Bool.not_false] at MX
          clear hx0 hXb hYb hnb hn0 i1 i2 h0
          go_enter Tryd.func28, Tryd.ntmps28
          go_wp2_with fail
          refine (Q1.out _).mono ?_; rintro e w' ⟨rfl, rfl⟩
          go_wp2_with fail
          refine (Q2.out _).mono ?_; rintro e w' ⟨rfl, rfl⟩
          go_wp2_with fail
          refine (Q3.out _).mono ?_; rintro e w' ⟨r3, rfl, hr3, rfl⟩
          have f3 := MX.out _ hr3; clear hr3
          go_wp2_with fail
          go_ret2
          exact ⟨ret2 (by rw [HQ.out, W0]; rfl), rfl⟩
end Go.Proofs.YtipcjffbjkpmbaaDoor

