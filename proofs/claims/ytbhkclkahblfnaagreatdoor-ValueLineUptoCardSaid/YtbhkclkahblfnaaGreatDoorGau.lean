/- What the functions of the package gauss answer. -/
import Derived.Test.YtbhkclkahblfnaaGreatDoorGm
import Derived.Test.YtbhkclkahblfnaaGreatDoorMath
namespace Go.Proofs.YtbhkclkahblfnaaGreatDoor
open Go.RowKit Flo
set_option maxHeartbeats 400000 in
theorem plain_any (b : Nat) (hb : b < 18446744073709551616) (w : World) :
    Calls Tryz.prog 72 #[.float .f64 b] w fun e w' => e = .returned (.bool (numOf b).isSome) ∧ w = w' := by
  have HP := Lib.hid (plain_cases b hb)
  by_cases h1 : geB b = true
  · have ht := trunc_ok h1
    have q1 := fun w => trunc_any b w ht
    have q2 := fun w => sig_any b hb w
    have Q1 := Lib.hid q1; have Q2 := Lib.hid q2; clear q1 q2 ht
    by_cases h2 : leB b = true
    · cases h3 : wholeB b
      · rw [h1, h2, h3] at HP
        unfold geB NM at h1; unfold leB PM at h2; unfold wholeB at h3
        go_enter Tryz.func72, Tryz.ntmps72
        go_wp2_with (first | (go_at_call 103; refine (Q1.out _).mono ?_; rintro e w' ⟨rfl, rfl⟩) | (go_at_call 104; refine (Q2.out _).mono ?_; rintro e w' ⟨rfl, rfl⟩))
        go_ret
        exact ⟨ret_bool (by rw [HP.out]; rfl), rfl⟩
      · cases h4 : zeroB b
        · rw [h1, h2, h3, h4] at HP
          unfold geB NM at h1; unfold leB PM at h2; unfold wholeB at h3; unfold zeroB at h4
          have h4 : (FloatKind.f64.format.order b 0 != some Ordering.eq) = true := by show (!(FloatKind.f64.format.order b 0 == some Ordering.eq)) = _; rw [h4]; rfl
          go_enter Tryz.func72, Tryz.ntmps72
          go_wp2_with (first | (go_at_call 103; refine (Q1.out _).mono ?_; rintro e w' ⟨rfl, rfl⟩) | (go_at_call 104; refine (Q2.out _).mono ?_; rintro e w' ⟨rfl, rfl⟩))
          go_ret
          exact ⟨ret_bool (by rw [HP.out]; rfl), rfl⟩
        · rw [h1, h2, h3, h4] at HP
          unfold geB NM at h1; unfold leB PM at h2; unfold wholeB at h3; unfold zeroB at h4
          have h4 : (FloatKind.f64.format.order b 0 != some Ordering.eq) = false := by show (!(FloatKind.f64.format.order b 0 == some Ordering.eq)) = _; rw [h4]; rfl
          go_enter Tryz.func72, Tryz.ntmps72
          go_wp2_with (first | (go_at_call 103; refine (Q1.out _).mono ?_; rintro e w' ⟨rfl, rfl⟩) | (go_at_call 104; refine (Q2.out _).mono ?_; rintro e w' ⟨rfl, rfl⟩))
          all_goals go_ret
          all_goals exact ⟨ret_bool (by rw [HP.out]; simp), rfl⟩
    · have h2 : leB b = false := by simpa using h2
      rw [h1, h2] at HP
      unfold geB NM at h1; unfold leB PM at h2
      go_enter Tryz.func72, Tryz.ntmps72
      go_wp2_with fail
      go_ret
      exact ⟨ret_bool (by rw [HP.out]; rfl), rfl⟩
  · have h1 : geB b = false := by simpa using h1
    rw [h1] at HP
    unfold geB NM at h1
    go_enter Tryz.func72, Tryz.ntmps72
    go_wp2_with fail
    go_ret
    exact ⟨ret_bool (by rw [HP.out]; rfl), rfl⟩
set_option maxHeartbeats 400000 in
theorem valid_any (a b : Nat) (ha : a < 18446744073709551616) (hb : b < 18446744073709551616) (w : World) :
    Calls Tryz.prog 43 #[.complex .f64 a b] w fun e w' => e = .returned (.bool (numC a b).isSome) ∧ w = w' := by
  have q1 := fun w => plain_any a ha w
  have q2 := fun w => plain_any b hb w
  have Q1 := Lib.hid q1; have Q2 := Lib.hid q2; clear q1 q2 ha hb
  have HC := Lib.hid (show (numC a b).isSome = ((numOf a).isSome && (numOf b).isSome) by unfold numC; cases numOf a <;> cases numOf b <;> rfl)
  cases h1 : (numOf a).isSome
  · rw [h1] at HC Q1
    go_enter Tryz.func43, Tryz.ntmps43
    go_wp2_with fail
    refine (Q1.out _).mono ?_; rintro e w' ⟨rfl, rfl⟩
    go_wp2_with fail
    go_ret
    exact ⟨ret_bool (by rw [HC.out]; rfl), rfl⟩
  · rw [h1] at HC Q1
    go_enter Tryz.func43, Tryz.ntmps43
    go_wp2_with fail
    refine (Q1.out _).mono ?_; rintro e w' ⟨rfl, rfl⟩
    go_wp2_with fail
    refine (Q2.out _).mono ?_; rintro e w' ⟨rfl, rfl⟩
    go_wp2_with fail
    go_ret
    exact ⟨ret_bool (by rw [HC.out]; rfl), rfl⟩
theorem ret2 {a b : Value} (h : a = b) : Ending.returned a = .returned b := by rw [h]
set_option maxHeartbeats 400000 in
theorem make_any (x y : Int) (w : World) :
    Calls Tryz.prog 80 #[.int .i64 x, .int .i64 y] w fun e w' => e = .returned (.tuple #[.complex .f64 (W (gMake x y).1.1) (W (gMake x y).1.2), .int .i64 (gMake x y).2]) ∧ w = w' := by
  cases h : okR x y
  · have HB := Lib.hid (make_neg h)
    have hr : ¬ ((-16777216 ≤ x ∧ x ≤ 16777216) ∧ (-16777216 ≤ y ∧ y ≤ 16777216)) := fun h' => by have := okR_iff.2 h'; rw [h] at this; cases this
    have hc : x < -16777216 ∨ 16777216 < x ∨ y < -16777216 ∨ 16777216 < y := by
      by_cases h1 : -16777216 ≤ x <;> by_cases h2 : x ≤ 16777216 <;> by_cases h3 : -16777216 ≤ y <;> by_cases h4 : y ≤ 16777216 <;> first | omega | exact (hr ⟨⟨h1, h2⟩, h3, h4⟩).elim
    clear hr h
    by_cases h1 : x < -16777216
    · go_enter Tryz.func80, Tryz.ntmps80
      go_wp2_with fail
      go_ret2
      exact ⟨ret2 (by unfold gMake; rw [HB.out]; rw [W0]; rfl), rfl⟩
    by_cases h2 : 16777216 < x
    · go_enter Tryz.func80, Tryz.ntmps80
      go_wp2_with fail
      go_ret2
      exact ⟨ret2 (by unfold gMake; rw [HB.out]; rw [W0]; rfl), rfl⟩
    by_cases h3 : y < -16777216
    · go_enter Tryz.func80, Tryz.ntmps80
      go_wp2_with fail
      go_ret2
      exact ⟨ret2 (by unfold gMake; rw [HB.out]; rw [W0]; rfl), rfl⟩
    · have h4 : 16777216 < y := by omega
      clear hc
      go_enter Tryz.func80, Tryz.ntmps80
      go_wp2_with fail
      go_ret2
      exact ⟨ret2 (by unfold gMake; rw [HB.out]; rw [W0]; rfl), rfl⟩
  · have HB := Lib.hid (make_pos h)
    obtain ⟨⟨h1, h2⟩, h3, h4⟩ := okR_iff.1 h
    clear h
    go_enter Tryz.func80, Tryz.ntmps80
    go_wp2_with fail
    go_ret2
    exact ⟨ret2 (by unfold gMake; rw [HB.out]; rfl), rfl⟩

/-- Parts -/
def prt (p : Option (Int × Int)) : Value := match p with
  | some (x, y) => .tuple #[.int .i64 x, .int .i64 y, .int .i64 0]
  | none => .tuple #[.int .i64 0, .int .i64 0, .int .i64 3]
theorem floatToInt_W {x : Int} (h : -16777216 ≤ x ∧ x ≤ 16777216) : floatToIntVal .f64 (W x) .i64 = some x := by
  unfold floatToIntVal
  rw [show FloatKind.f64.decode (W x) = Ieee.double.read (W x) from rfl, toInt_is (isW_read (by omega) (W_isW x))]
  have hlo : IntKind.i64.min = -9223372036854775808 := by decide
  have hhi : IntKind.i64.max = 9223372036854775807 := by decide
  simp only [hlo, hhi]
  rw [if_pos (by omega)]
set_option maxHeartbeats 400000 in
theorem parts_any (a b : Nat) (ha : a < 18446744073709551616) (hb : b < 18446744073709551616) (w : World) :
    Calls Tryz.prog 65 #[.complex .f64 a b] w fun e w' => e = .returned (prt (numC a b)) ∧ w = w' := by
  have q := fun w => valid_any a b ha hb w
  have Q := Lib.hid q; clear q ha hb
  cases h : numC a b with
  | none =>
    rw [h] at Q
    go_enter Tryz.func65, Tryz.ntmps65
    go_wp2_with fail
    refine (Q.out _).mono ?_; rintro e w' ⟨rfl, rfl⟩
    go_wp2_with fail
    go_ret3
    exact ⟨rfl, rfl⟩
  | some p =>
    rw [h] at Q
    obtain ⟨x, y⟩ := p
    obtain ⟨h1, h2⟩ := numC_some h
    have g1 := numOf_rng h1; have g2 := numOf_rng h2
    obtain rfl := numOf_eq h1; obtain rfl := numOf_eq h2
    have r1 := fun w => run_convert_float_int (P := Tryz.prog) w 114 3 .f64 .i64 (W x) x (by kernel_rfl) Tryz.underlying3 (floatToInt_W g1)
    have r2 := fun w => run_convert_float_int (P := Tryz.prog) w 114 3 .f64 .i64 (W y) y (by kernel_rfl) Tryz.underlying3 (floatToInt_W g2)
    clear h h1 h2
    go_enter Tryz.func65, Tryz.ntmps65
    go_wp2_with fail
    refine (Q.out _).mono ?_; rintro e w' ⟨rfl, rfl⟩
    go_wp2_with fail
    go_ret3
    exact ⟨rfl, rfl⟩
theorem cadd_w {a b c d : Nat} {x y u v : Int} (hx : x.natAbs ≤ 1125899906842624) (hy : y.natAbs ≤ 1125899906842624) (hu : u.natAbs ≤ 1125899906842624) (hv : v.natAbs ≤ 1125899906842624) (ha : IsW a x) (hb : IsW b y) (hc : IsW c u) (hd : IsW d v) :
    ∃ re im, cSumBits .add .f64 a b c d = some (re, im) ∧ IsW re (x + u) ∧ IsW im (y + v) := by
  obtain ⟨re, h1, h2⟩ := add_w (by omega) (by omega) ha hc (by omega)
  obtain ⟨im, h3, h4⟩ := add_w (by omega) (by omega) hb hd (by omega)
  exact ⟨re, im, by unfold cSumBits; rw [h1, h3]; rfl, h2, h4⟩
theorem csub_w {a b c d : Nat} {x y u v : Int} (hx : x.natAbs ≤ 1125899906842624) (hy : y.natAbs ≤ 1125899906842624) (hu : u.natAbs ≤ 1125899906842624) (hv : v.natAbs ≤ 1125899906842624) (ha : IsW a x) (hb : IsW b y) (hc : IsW c u) (hd : IsW d v) :
    ∃ re im, cSumBits .sub .f64 a b c d = some (re, im) ∧ IsW re (x - u) ∧ IsW im (y - v) := by
  obtain ⟨re, h1, h2⟩ := sub_w (by omega) (by omega) ha hc (by omega)
  obtain ⟨im, h3, h4⟩ := sub_w (by omega) (by omega) hb hd (by omega)
  exact ⟨re, im, by unfold cSumBits; rw [h1, h3]; rfl, h2, h4⟩
theorem mul_bd {a b : Int} {B : Nat} (ha : a.natAbs ≤ B) (hb : b.natAbs ≤ 16777216) : (a * b).natAbs ≤ B * 16777216 := by
  rw [Int.natAbs_mul]; exact Nat.mul_le_mul ha hb
theorem cmul_w {a b c d : Nat} {x y u v : Int} (hx : x.natAbs ≤ 16777216) (hy : y.natAbs ≤ 16777216) (hu : u.natAbs ≤ 16777216) (hv : v.natAbs ≤ 16777216) (ha : IsW a x) (hb : IsW b y) (hc : IsW c u) (hd : IsW d v) :
    ∃ re im, cMulBits a b c d = some (re, im) ∧ IsW re (x * u - y * v) ∧ IsW im (x * v + y * u) := by
  have b1 := mul_bd hx hu; have b2 := mul_bd hy hv; have b3 := mul_bd hx hv; have b4 := mul_bd hy hu
  obtain ⟨r1, h1, i1⟩ := mul_w (by omega) (by omega) ha hc (by omega)
  obtain ⟨r2, h2, i2⟩ := mul_w (by omega) (by omega) hb hd (by omega)
  obtain ⟨r3, h3, i3⟩ := sub_w (by omega) (by omega) i1 i2 (by omega)
  obtain ⟨r4, h4, i4⟩ := mul_w (by omega) (by omega) ha hd (by omega)
  obtain ⟨r5, h5, i5⟩ := mul_w (by omega) (by omega) hb hc (by omega)
  obtain ⟨r6, h6, i6⟩ := add_w (by omega) (by omega) i4 i5 (by omega)
  exact ⟨r3, r6, by unfold cMulBits; rw [h1, h2]; simp only [Option.bind_some]; rw [h3, h4, h5]; simp only [Option.bind_some]; rw [h6]; rfl, i3, i6⟩
end Go.Proofs.YtbhkclkahblfnaaGreatDoor
