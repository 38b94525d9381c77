/- The walk of GaussMakes: whatever the arguments, true. -/
import Derived.Test.YtipcjffbjkpmbaaDoorRefc
namespace Go.Proofs.YtipcjffbjkpmbaaDoor
open Go.RowKit Flo
theorem of_none {a b : Nat} (ha : a < 18446744073709551616) (hb : b < 18446744073709551616) (h : numC a b = none) (w : World) :
    Calls Tryd.prog 14 #[.complex .f64 a b] w fun e w' => e = .returned (.tuple #[.agg #[.int .i64 0, .int .i64 0], .bool false]) ∧ Below w.heap.size w w' := by
  have q := of_any a b ha hb w; rw [h] at q; exact q
theorem of_some {a b : Nat} {x y : Int} (ha : a < 18446744073709551616) (hb : b < 18446744073709551616) (h : numC a b = some (x, y)) (w : World) :
    Calls Tryd.prog 14 #[.complex .f64 a b] w fun e w' => e = .returned (.tuple #[.agg #[.int .i64 x, .int .i64 y], .bool true]) ∧ Below w.heap.size w w' := by
  have q := of_any a b ha hb w; rw [h] at q; exact q
theorem parts_none {a b : Nat} (ha : a < 18446744073709551616) (hb : b < 18446744073709551616) (h : numC a b = none) (w : World) :
    Calls Tryd.prog 16 #[.complex .f64 a b] w fun e w' => e = .returned (.tuple #[.int .i64 0, .int .i64 0, .int .i64 3]) ∧ w = w' := by
  have q := parts_any a b ha hb w; rw [h] at q; exact q
theorem parts_some {a b : Nat} {x y : Int} (ha : a < 18446744073709551616) (hb : b < 18446744073709551616) (h : numC a b = some (x, y)) (w : World) :
    Calls Tryd.prog 16 #[.complex .f64 a b] w fun e w' => e = .returned (.tuple #[.int .i64 x, .int .i64 y, .int .i64 0]) ∧ w = w' := by
  have q := parts_any a b ha hb w; rw [h] at q; exact q
theorem valid_none {a b : Nat} (ha : a < 18446744073709551616) (hb : b < 18446744073709551616) (h : numC a b = none) (w : World) :
    Calls Tryd.prog 17 #[.complex .f64 a b] w fun e w' => e = .returned (.bool false) ∧ w = w' := by
  have q := valid_any a b ha hb w; rw [h] at q; exact q
theorem valid_some {a b : Nat} {x y : Int} (ha : a < 18446744073709551616) (hb : b < 18446744073709551616) (h : numC a b = some (x, y)) (w : World) :
    Calls Tryd.prog 17 #[.complex .f64 a b] w fun e w' => e = .returned (.bool true) ∧ w = w' := by
  have q := valid_any a b ha hb w; rw [h] at q; exact q
theorem bits_self (a b : Nat) (w : World) :
    Calls Tryd.prog 13 #[.complex .f64 a b, .complex .f64 a b] w fun e w' => e = .returned (.bool true) ∧ w = w' := by
  have q := bits_any a b a b w; simpa using q
theorem make_no {x y : Int} (h : okR x y = false) (w : World) :
    Calls Tryd.prog 12 #[.int .i64 x, .int .i64 y] w fun e w' => e = .returned (.tuple #[.complex .f64 0 0, .int .i64 2]) ∧ w = w' := by
  have q := make_any x y w
  unfold gMake at q; rw [make_neg h] at q; simp only [W0] at q; exact q
theorem make_yes {x y : Int} (h : okR x y = true) (w : World) :
    Calls Tryd.prog 12 #[.int .i64 x, .int .i64 y] w fun e w' => e = .returned (.tuple #[.complex .f64 (W x) (W y), .int .i64 0]) ∧ w = w' := by
  have q := make_any x y w
  unfold gMake at q; rw [make_pos h] at q; exact q
theorem okR_no {x y : Int} (h : okR x y = false) : x < -16777216 ∨ 16777216 < x ∨ y < -16777216 ∨ 16777216 < y := by
  have hr : ¬ ((-16777216 ≤ x ∧ x ≤ 16777216) ∧ (-16777216 ≤ y ∧ y ≤ 16777216)) := fun h' => by have := okR_iff.2 h'; rw [h] at this; cases this
  by_cases h1 : -16777216 ≤ x <;> by_cases h2 : x ≤ 16777216 <;> by_cases h3 : -16777216 ≤ y <;> by_cases h4 : y ≤ 16777216 <;> first | omega | exact (hr ⟨⟨h1, h2⟩, h3, h4⟩).elim
set_option maxRecDepth 100000 in
set_option maxHeartbeats 1000000 in
theorem makes_yes_some (x y : Int) (raw : Bool) (re im : Int) (u v : Int) (hok : okR re im = true) (h : numC (zw raw x) (zw raw y) = some (u, v)) (w : World) :
    Calls Tryd.prog 3 #[.agg #[.int .i64 x, .int .i64 y, .bool raw], .int .i64 re, .int .i64 im] w fun e w' => e = .returned (.bool true) ∧ Below w.heap.size w w' := by
  have QO := Lib.hid (fun w => of_some (zw_lt raw x) (zw_lt raw y) h w)
  have QP := Lib.hid (fun w => parts_some (zw_lt raw x) (zw_lt raw y) h w)
  have QV := Lib.hid (fun w => valid_some (zw_lt raw x) (zw_lt raw y) h w)
  clear h
  have QM := Lib.hid (fun w => make_yes hok w)
  have QB := Lib.hid (fun w => bits_self (W re) (W im) w)
  obtain ⟨⟨h1, h2⟩, h3, h4⟩ := okR_iff.1 hok
  clear hok
  go_enter Tryd.func3, Tryd.ntmps3
  go_wp2_with fail
  refine (awake_any _).mono ?_; rintro e w' ⟨rfl, rfl⟩
  go_wp2_with fail
  refine (QM.out _).mono ?_; rintro e w' ⟨rfl, rfl⟩
  go_wp2_with fail
  refine (QB.out _).mono ?_; rintro e w' ⟨rfl, rfl⟩
  go_wp2_with fail
  refine (z_any _ _ _ _).mono ?_; rintro e w1 ⟨rfl, hb1⟩
  obtain ⟨hc1, hf1⟩ := bcell hb1
  have hz1_0 : w.heap.size < w1.heap.size := by (have := hb1.size; first | omega | (simp at this; omega))
  have HB1 : Hid (Below w.heap.size w w1) := by
    refine Lib.hid (Below.trans ?_ (hb1.mono (by first | omega | (simp <;> omega))))
    repeat (first | exact Below.refl _ _ | refine Below.alloc ?_ (by first | omega | (simp <;> omega)) _ | refine Below.setCell ?_ (by first | omega | (simp <;> omega)) _ | refine below_drewN ?_ _ | refine Below.drew ?_)
  clear hb1
  go_wp2_with fail
  refine (QO.out _).mono ?_; rintro e w2 ⟨rfl, hb2⟩
  obtain ⟨hc2, hf2⟩ := bcell hb2
  have hz2_0 : w.heap.size < w2.heap.size := by (have := hb2.size; first | omega | (simp at this; omega))
  have HB2 : Hid (Below w.heap.size w w2) := by
    refine Lib.hid (Below.trans ?_ (hb2.mono (by first | omega | (simp <;> omega))))
    repeat (first | exact HB1.out | exact Below.refl _ _ | refine Below.alloc ?_ (by first | omega | (simp <;> omega)) _ | refine Below.setCell ?_ (by first | omega | (simp <;> omega)) _ | refine below_drewN ?_ _ | refine Below.drew ?_)
  clear hb2
  go_wp2_with fail
  refine (z_any _ _ _ _).mono ?_; rintro e w3 ⟨rfl, hb3⟩
  obtain ⟨hc3, hf3⟩ := bcell hb3
  have hz3_0 : w.heap.size < w3.heap.size := by (have := hb3.size; first | omega | (simp at this; omega))
  have hz3_1 : w2.heap.size < w3.heap.size := by (have := hb3.size; first | omega | (simp at this; omega))
  have HB3 : Hid (Below w.heap.size w w3) := by
    refine Lib.hid (Below.trans ?_ (hb3.mono (by first | omega | (simp <;> omega))))
    repeat (first | exact HB2.out | exact Below.refl _ _ | refine Below.alloc ?_ (by first | omega | (simp <;> omega)) _ | refine Below.setCell ?_ (by first | omega | (simp <;> omega)) _ | refine below_drewN ?_ _ | refine Below.drew ?_)
  clear hb3
  go_wp2_with fail
  refine (QP.out _).mono ?_; rintro e w' ⟨rfl, rfl⟩
  go_wp2_with fail
  refine (z_any _ _ _ _).mono ?_; rintro e w4 ⟨rfl, hb4⟩
  obtain ⟨hc4, hf4⟩ := bcell hb4
  have hz4_0 : w.heap.size < w4.heap.size := by (have := hb4.size; first | omega | (simp at this; omega))
  have hz4_1 : w2.heap.size < w4.heap.size := by (have := hb4.size; first | omega | (simp at this; omega))
  have HB4 : Hid (Below w.heap.size w w4) := by
    refine Lib.hid (Below.trans ?_ (hb4.mono (by first | omega | (simp <;> omega))))
    repeat (first | exact HB3.out | exact Below.refl _ _ | refine Below.alloc ?_ (by first | omega | (simp <;> omega)) _ | refine Below.setCell ?_ (by first | omega | (simp <;> omega)) _ | refine below_drewN ?_ _ | refine Below.drew ?_)
  clear hb4
  go_wp2_with fail
  refine (QV.out _).mono ?_; rintro e w' ⟨rfl, rfl⟩
  go_wp2_with fail
  go_ret
  exact ⟨rfl, by repeat (first | exact HB4.out | exact Below.refl _ _ | refine Below.alloc ?_ (by first | omega | (simp <;> omega)) _ | refine Below.setCell ?_ (by first | omega | (simp <;> omega)) _ | refine below_drewN ?_ _ | refine Below.drew ?_)⟩
set_option maxRecDepth 100000 in
set_option maxHeartbeats 1000000 in
theorem makes_yes_none (x y : Int) (raw : Bool) (re im : Int) (hok : okR re im = true) (h : numC (zw raw x) (zw raw y) = none) (w : World) :
    Calls Tryd.prog 3 #[.agg #[.int .i64 x, .int .i64 y, .bool raw], .int .i64 re, .int .i64 im] w fun e w' => e = .returned (.bool true) ∧ Below w.heap.size w w' := by
  have QO := Lib.hid (fun w => of_none (zw_lt raw x) (zw_lt raw y) h w)
  have QP := Lib.hid (fun w => parts_none (zw_lt raw x) (zw_lt raw y) h w)
  have QV := Lib.hid (fun w => valid_none (zw_lt raw x) (zw_lt raw y) h w)
  clear h
  have QM := Lib.hid (fun w => make_yes hok w)
  have QB := Lib.hid (fun w => bits_self (W re) (W im) w)
  obtain ⟨⟨h1, h2⟩, h3, h4⟩ := okR_iff.1 hok
  clear hok
  go_enter Tryd.func3, Tryd.ntmps3
  go_wp2_with fail
  refine (awake_any _).mono ?_; rintro e w' ⟨rfl, rfl⟩
  go_wp2_with fail
  refine (QM.out _).mono ?_; rintro e w' ⟨rfl, rfl⟩
  go_wp2_with fail
  refine (QB.out _).mono ?_; rintro e w' ⟨rfl, rfl⟩
  go_wp2_with fail
  refine (z_any _ _ _ _).mono ?_; rintro e w1 ⟨rfl, hb1⟩
  obtain ⟨hc1, hf1⟩ := bcell hb1
  have hz1_0 : w.heap.size < w1.heap.size := by (have := hb1.size; first | omega | (simp at this; omega))
  have HB1 : Hid (Below w.heap.size w w1) := by
    refine Lib.hid (Below.trans ?_ (hb1.mono (by first | omega | (simp <;> omega))))
    repeat (first | exact Below.refl _ _ | refine Below.alloc ?_ (by first | omega | (simp <;> omega)) _ | refine Below.setCell ?_ (by first | omega | (simp <;> omega)) _ | refine below_drewN ?_ _ | refine Below.drew ?_)
  clear hb1
  go_wp2_with fail
  refine (QO.out _).mono ?_; rintro e w2 ⟨rfl, hb2⟩
  obtain ⟨hc2, hf2⟩ := bcell hb2
  have hz2_0 : w.heap.size < w2.heap.size := by (have := hb2.size; first | omega | (simp at this; omega))
  have HB2 : Hid (Below w.heap.size w w2) := by
    refine Lib.hid (Below.trans ?_ (hb2.mono (by first | omega | (simp <;> omega))))
    repeat (first | exact HB1.out | exact Below.refl _ _ | refine Below.alloc ?_ (by first | omega | (simp <;> omega)) _ | refine Below.setCell ?_ (by first | omega | (simp <;> omega)) _ | refine below_drewN ?_ _ | refine Below.drew ?_)
  clear hb2
  go_wp2_with fail
  refine (z_any _ _ _ _).mono ?_; rintro e w3 ⟨rfl, hb3⟩
  obtain ⟨hc3, hf3⟩ := bcell hb3
  have hz3_0 : w.heap.size < w3.heap.size := by (have := hb3.size; first | omega | (simp at this; omega))
  have hz3_1 : w2.heap.size < w3.heap.size := by (have := hb3.size; first | omega | (simp at this; omega))
  have HB3 : Hid (Below w.heap.size w w3) := by
    refine Lib.hid (Below.trans ?_ (hb3.mono (by first | omega | (simp <;> omega))))
    repeat (first | exact HB2.out | exact Below.refl _ _ | refine Below.alloc ?_ (by first | omega | (simp <;> omega)) _ | refine Below.setCell ?_ (by first | omega | (simp <;> omega)) _ | refine below_drewN ?_ _ | refine Below.drew ?_)
  clear hb3
  go_wp2_with fail
  refine (QP.out _).mono ?_; rintro e w' ⟨rfl, rfl⟩
  go_wp2_with fail
  refine (z_any _ _ _ _).mono ?_; rintro e w4 ⟨rfl, hb4⟩
  obtain ⟨hc4, hf4⟩ := bcell hb4
  have hz4_0 : w.heap.size < w4.heap.size := by (have := hb4.size; first | omega | (simp at this; omega))
  have hz4_1 : w2.heap.size < w4.heap.size := by (have := hb4.size; first | omega | (simp at this; omega))
  have HB4 : Hid (Below w.heap.size w w4) := by
    refine Lib.hid (Below.trans ?_ (hb4.mono (by first | omega | (simp <;> omega))))
    repeat (first | exact HB3.out | exact Below.refl _ _ | refine Below.alloc ?_ (by first | omega | (simp <;> omega)) _ | refine Below.setCell ?_ (by first | omega | (simp <;> omega)) _ | refine below_drewN ?_ _ | refine Below.drew ?_)
  clear hb4
  go_wp2_with fail
  refine (QV.out _).mono ?_; rintro e w' ⟨rfl, rfl⟩
  go_wp2_with fail
  go_ret
  exact ⟨rfl, by repeat (first | exact HB4.out | exact Below.refl _ _ | refine Below.alloc ?_ (by first | omega | (simp <;> omega)) _ | refine Below.setCell ?_ (by first | omega | (simp <;> omega)) _ | refine below_drewN ?_ _ | refine Below.drew ?_)⟩
set_option maxRecDepth 100000 in
set_option maxHeartbeats 1000000 in
theorem makes_no_some (x y : Int) (raw : Bool) (re im : Int) (u v : Int) (hok : okR re im = false) (h : numC (zw raw x) (zw raw y) = some (u, v)) (w : World) :
    Calls Tryd.prog 3 #[.agg #[.int .i64 x, .int .i64 y, .bool raw], .int .i64 re, .int .i64 im] w fun e w' => e = .returned (.bool true) ∧ Below w.heap.size w w' := by
  have QO := Lib.hid (fun w => of_some (zw_lt raw x) (zw_lt raw y) h w)
  have QP := Lib.hid (fun w => parts_some (zw_lt raw x) (zw_lt raw y) h w)
  have QV := Lib.hid (fun w => valid_some (zw_lt raw x) (zw_lt raw y) h w)
  clear h
  have QM := Lib.hid (fun w => make_no hok w)
  have QB := Lib.hid (fun w => bits_self 0 0 w)
  have hc := okR_no hok
  clear hok
  by_cases h1 : re < -16777216
  · clear hc
    go_enter Tryd.func3, Tryd.ntmps3
    go_wp2_with fail
    refine (awake_any _).mono ?_; rintro e w' ⟨rfl, rfl⟩
    go_wp2_with fail
    refine (QM.out _).mono ?_; rintro e w' ⟨rfl, rfl⟩
    go_wp2_with fail
    refine (QB.out _).mono ?_; rintro e w' ⟨rfl, rfl⟩
    go_wp2_with fail
    refine (z_any _ _ _ _).mono ?_; rintro e w1 ⟨rfl, hb1⟩
    obtain ⟨hc1, hf1⟩ := bcell hb1
    have hz1_0 : w.heap.size < w1.heap.size := by (have := hb1.size; first | omega | (simp at this; omega))
    have HB1 : Hid (Below w.heap.size w w1) := by
      refine Lib.hid (Below.trans ?_ (hb1.mono (by first | omega | (simp <;> omega))))
      repeat (first | exact Below.refl _ _ | refine Below.alloc ?_ (by first | omega | (simp <;> omega)) _ | refine Below.setCell ?_ (by first | omega | (simp <;> omega)) _ | refine below_drewN ?_ _ | refine Below.drew ?_)
    clear hb1
    go_wp2_with fail
    refine (QO.out _).mono ?_; rintro e w2 ⟨rfl, hb2⟩
    obtain ⟨hc2, hf2⟩ := bcell hb2
    have hz2_0 : w.heap.size < w2.heap.size := by (have := hb2.size; first | omega | (simp at this; omega))
    have HB2 : Hid (Below w.heap.size w w2) := by
      refine Lib.hid (Below.trans ?_ (hb2.mono (by first | omega | (simp <;> omega))))
      repeat (first | exact HB1.out | exact Below.refl _ _ | refine Below.alloc ?_ (by first | omega | (simp <;> omega)) _ | refine Below.setCell ?_ (by first | omega | (simp <;> omega)) _ | refine below_drewN ?_ _ | refine Below.drew ?_)
    clear hb2
    go_wp2_with fail
    refine (z_any _ _ _ _).mono ?_; rintro e w3 ⟨rfl, hb3⟩
    obtain ⟨hc3, hf3⟩ := bcell hb3
    have hz3_0 : w.heap.size < w3.heap.size := by (have := hb3.size; first | omega | (simp at this; omega))
    have hz3_1 : w2.heap.size < w3.heap.size := by (have := hb3.size; first | omega | (simp at this; omega))
    have HB3 : Hid (Below w.heap.size w w3) := by
      refine Lib.hid (Below.trans ?_ (hb3.mono (by first | omega | (simp <;> omega))))
      repeat (first | exact HB2.out | exact Below.refl _ _ | refine Below.alloc ?_ (by first | omega | (simp <;> omega)) _ | refine Below.setCell ?_ (by first | omega | (simp <;> omega)) _ | refine below_drewN ?_ _ | refine Below.drew ?_)
    clear hb3
    go_wp2_with fail
    refine (QP.out _).mono ?_; rintro e w' ⟨rfl, rfl⟩
    go_wp2_with fail
    refine (z_any _ _ _ _).mono ?_; rintro e w4 ⟨rfl, hb4⟩
    obtain ⟨hc4, hf4⟩ := bcell hb4
    have hz4_0 : w.heap.size < w4.heap.size := by (have := hb4.size; first | omega | (simp at this; omega))
    have hz4_1 : w2.heap.size < w4.heap.size := by (have := hb4.size; first | omega | (simp at this; omega))
    have HB4 : Hid (Below w.heap.size w w4) := by
      refine Lib.hid (Below.trans ?_ (hb4.mono (by first | omega | (simp <;> omega))))
      repeat (first | exact HB3.out | exact Below.refl _ _ | refine Below.alloc ?_ (by first | omega | (simp <;> omega)) _ | refine Below.setCell ?_ (by first | omega | (simp <;> omega)) _ | refine below_drewN ?_ _ | refine Below.drew ?_)
    clear hb4
    go_wp2_with fail
    refine (QV.out _).mono ?_; rintro e w' ⟨rfl, rfl⟩
    go_wp2_with fail
    go_ret
    exact ⟨rfl, by repeat (first | exact HB4.out | exact Below.refl _ _ | refine Below.alloc ?_ (by first | omega | (simp <;> omega)) _ | refine Below.setCell ?_ (by first | omega | (simp <;> omega)) _ | refine below_drewN ?_ _ | refine Below.drew ?_)⟩
  by_cases h2 : 16777216 < re
  · clear hc
    go_enter Tryd.func3, Tryd.ntmps3
    go_wp2_with fail
    refine (awake_any _).mono ?_; rintro e w' ⟨rfl, rfl⟩
    go_wp2_with fail
    refine (QM.out _).mono ?_; rintro e w' ⟨rfl, rfl⟩
    go_wp2_with fail
    refine (QB.out _).mono ?_; rintro e w' ⟨rfl, rfl⟩
    go_wp2_with fail
    refine (z_any _ _ _ _).mono ?_; rintro e w1 ⟨rfl, hb1⟩
    obtain ⟨hc1, hf1⟩ := bcell hb1
    have hz1_0 : w.heap.size < w1.heap.size := by (have := hb1.size; first | omega | (simp at this; omega))
    have HB1 : Hid (Below w.heap.size w w1) := by
      refine Lib.hid (Below.trans ?_ (hb1.mono (by first | omega | (simp <;> omega))))
      repeat (first | exact Below.refl _ _ | refine Below.alloc ?_ (by first | omega | (simp <;> omega)) _ | refine Below.setCell ?_ (by first | omega | (simp <;> omega)) _ | refine below_drewN ?_ _ | refine Below.drew ?_)
    clear hb1
    go_wp2_with fail
    refine (QO.out _).mono ?_; rintro e w2 ⟨rfl, hb2⟩
    obtain ⟨hc2, hf2⟩ := bcell hb2
    have hz2_0 : w.heap.size < w2.heap.size := by (have := hb2.size; first | omega | (simp at this; omega))
    have HB2 : Hid (Below w.heap.size w w2) := by
      refine Lib.hid (Below.trans ?_ (hb2.mono (by first | omega | (simp <;> omega))))
      repeat (first | exact HB1.out | exact Below.refl _ _ | refine Below.alloc ?_ (by first | omega | (simp <;> omega)) _ | refine Below.setCell ?_ (by first | omega | (simp <;> omega)) _ | refine below_drewN ?_ _ | refine Below.drew ?_)
    clear hb2
    go_wp2_with fail
    refine (z_any _ _ _ _).mono ?_; rintro e w3 ⟨rfl, hb3⟩
    obtain ⟨hc3, hf3⟩ := bcell hb3
    have hz3_0 : w.heap.size < w3.heap.size := by (have := hb3.size; first | omega | (simp at this; omega))
    have hz3_1 : w2.heap.size < w3.heap.size := by (have := hb3.size; first | omega | (simp at this; omega))
    have HB3 : Hid (Below w.heap.size w w3) := by
      refine Lib.hid (Below.trans ?_ (hb3.mono (by first | omega | (simp <;> omega))))
      repeat (first | exact HB2.out | exact Below.refl _ _ | refine Below.alloc ?_ (by first | omega | (simp <;> omega)) _ | refine Below.setCell ?_ (by first | omega | (simp <;> omega)) _ | refine below_drewN ?_ _ | refine Below.drew ?_)
    clear hb3
    go_wp2_with fail
    refine (QP.out _).mono ?_; rintro e w' ⟨rfl, rfl⟩
    go_wp2_with fail
    refine (z_any _ _ _ _).mono ?_; rintro e w4 ⟨rfl, hb4⟩
    obtain ⟨hc4, hf4⟩ := bcell hb4
    have hz4_0 : w.heap.size < w4.heap.size := by (have := hb4.size; first | omega | (simp at this; omega))
    have hz4_1 : w2.heap.size < w4.heap.size := by (have := hb4.size; first | omega | (simp at this; omega))
    have HB4 : Hid (Below w.heap.size w w4) := by
      refine Lib.hid (Below.trans ?_ (hb4.mono (by first | omega | (simp <;> omega))))
      repeat (first | exact HB3.out | exact Below.refl _ _ | refine Below.alloc ?_ (by first | omega | (simp <;> omega)) _ | refine Below.setCell ?_ (by first | omega | (simp <;> omega)) _ | refine below_drewN ?_ _ | refine Below.drew ?_)
    clear hb4
    go_wp2_with fail
    refine (QV.out _).mono ?_; rintro e w' ⟨rfl, rfl⟩
    go_wp2_with fail
    go_ret
    exact ⟨rfl, by repeat (first | exact HB4.out | exact Below.refl _ _ | refine Below.alloc ?_ (by first | omega | (simp <;> omega)) _ | refine Below.setCell ?_ (by first | omega | (simp <;> omega)) _ | refine below_drewN ?_ _ | refine Below.drew ?_)⟩
  by_cases h3 : im < -16777216
  · clear hc
    go_enter Tryd.func3, Tryd.ntmps3
    go_wp2_with fail
    refine (awake_any _).mono ?_; rintro e w' ⟨rfl, rfl⟩
    go_wp2_with fail
    refine (QM.out _).mono ?_; rintro e w' ⟨rfl, rfl⟩
    go_wp2_with fail
    refine (QB.out _).mono ?_; rintro e w' ⟨rfl, rfl⟩
    go_wp2_with fail
    refine (z_any _ _ _ _).mono ?_; rintro e w1 ⟨rfl, hb1⟩
    obtain ⟨hc1, hf1⟩ := bcell hb1
    have hz1_0 : w.heap.size < w1.heap.size := by (have := hb1.size; first | omega | (simp at this; omega))
    have HB1 : Hid (Below w.heap.size w w1) := by
      refine Lib.hid (Below.trans ?_ (hb1.mono (by first | omega | (simp <;> omega))))
      repeat (first | exact Below.refl _ _ | refine Below.alloc ?_ (by first | omega | (simp <;> omega)) _ | refine Below.setCell ?_ (by first | omega | (simp <;> omega)) _ | refine below_drewN ?_ _ | refine Below.drew ?_)
    clear hb1
    go_wp2_with fail
    refine (QO.out _).mono ?_; rintro e w2 ⟨rfl, hb2⟩
    obtain ⟨hc2, hf2⟩ := bcell hb2
    have hz2_0 : w.heap.size < w2.heap.size := by (have := hb2.size; first | omega | (simp at this; omega))
    have HB2 : Hid (Below w.heap.size w w2) := by
      refine Lib.hid (Below.trans ?_ (hb2.mono (by first | omega | (simp <;> omega))))
      repeat (first | exact HB1.out | exact Below.refl _ _ | refine Below.alloc ?_ (by first | omega | (simp <;> omega)) _ | refine Below.setCell ?_ (by first | omega | (simp <;> omega)) _ | refine below_drewN ?_ _ | refine Below.drew ?_)
    clear hb2
    go_wp2_with fail
    refine (z_any _ _ _ _).mono ?_; rintro e w3 ⟨rfl, hb3⟩
    obtain ⟨hc3, hf3⟩ := bcell hb3
    have hz3_0 : w.heap.size < w3.heap.size := by (have := hb3.size; first | omega | (simp at this; omega))
    have hz3_1 : w2.heap.size < w3.heap.size := by (have := hb3.size; first | omega | (simp at this; omega))
    have HB3 : Hid (Below w.heap.size w w3) := by
      refine Lib.hid (Below.trans ?_ (hb3.mono (by first | omega | (simp <;> omega))))
      repeat (first | exact HB2.out | exact Below.refl _ _ | refine Below.alloc ?_ (by first | omega | (simp <;> omega)) _ | refine Below.setCell ?_ (by first | omega | (simp <;> omega)) _ | refine below_drewN ?_ _ | refine Below.drew ?_)
    clear hb3
    go_wp2_with fail
    refine (QP.out _).mono ?_; rintro e w' ⟨rfl, rfl⟩
    go_wp2_with fail
    refine (z_any _ _ _ _).mono ?_; rintro e w4 ⟨rfl, hb4⟩
    obtain ⟨hc4, hf4⟩ := bcell hb4
    have hz4_0 : w.heap.size < w4.heap.size := by (have := hb4.size; first | omega | (simp at this; omega))
    have hz4_1 : w2.heap.size < w4.heap.size := by (have := hb4.size; first | omega | (simp at this; omega))
    have HB4 : Hid (Below w.heap.size w w4) := by
      refine Lib.hid (Below.trans ?_ (hb4.mono (by first | omega | (simp <;> omega))))
      repeat (first | exact HB3.out | exact Below.refl _ _ | refine Below.alloc ?_ (by first | omega | (simp <;> omega)) _ | refine Below.setCell ?_ (by first | omega | (simp <;> omega)) _ | refine below_drewN ?_ _ | refine Below.drew ?_)
    clear hb4
    go_wp2_with fail
    refine (QV.out _).mono ?_; rintro e w' ⟨rfl, rfl⟩
    go_wp2_with fail
    go_ret
    exact ⟨rfl, by repeat (first | exact HB4.out | exact Below.refl _ _ | refine Below.alloc ?_ (by first | omega | (simp <;> omega)) _ | refine Below.setCell ?_ (by first | omega | (simp <;> omega)) _ | refine below_drewN ?_ _ | refine Below.drew ?_)⟩
  · have h4 : 16777216 < im := by omega
    clear hc
    go_enter Tryd.func3, Tryd.ntmps3
    go_wp2_with fail
    refine (awake_any _).mono ?_; rintro e w' ⟨rfl, rfl⟩
    go_wp2_with fail
    refine (QM.out _).mono ?_; rintro e w' ⟨rfl, rfl⟩
    go_wp2_with fail
    refine (QB.out _).mono ?_; rintro e w' ⟨rfl, rfl⟩
    go_wp2_with fail
    refine (z_any _ _ _ _).mono ?_; rintro e w1 ⟨rfl, hb1⟩
    obtain ⟨hc1, hf1⟩ := bcell hb1
    have hz1_0 : w.heap.size < w1.heap.size := by (have := hb1.size; first | omega | (simp at this; omega))
    have HB1 : Hid (Below w.heap.size w w1) := by
      refine Lib.hid (Below.trans ?_ (hb1.mono (by first | omega | (simp <;> omega))))
      repeat (first | exact Below.refl _ _ | refine Below.alloc ?_ (by first | omega | (simp <;> omega)) _ | refine Below.setCell ?_ (by first | omega | (simp <;> omega)) _ | refine below_drewN ?_ _ | refine Below.drew ?_)
    clear hb1
    go_wp2_with fail
    refine (QO.out _).mono ?_; rintro e w2 ⟨rfl, hb2⟩
    obtain ⟨hc2, hf2⟩ := bcell hb2
    have hz2_0 : w.heap.size < w2.heap.size := by (have := hb2.size; first | omega | (simp at this; omega))
    have HB2 : Hid (Below w.heap.size w w2) := by
      refine Lib.hid (Below.trans ?_ (hb2.mono (by first | omega | (simp <;> omega))))
      repeat (first | exact HB1.out | exact Below.refl _ _ | refine Below.alloc ?_ (by first | omega | (simp <;> omega)) _ | refine Below.setCell ?_ (by first | omega | (simp <;> omega)) _ | refine below_drewN ?_ _ | refine Below.drew ?_)
    clear hb2
    go_wp2_with fail
    refine (z_any _ _ _ _).mono ?_; rintro e w3 ⟨rfl, hb3⟩
    obtain ⟨hc3, hf3⟩ := bcell hb3
    have hz3_0 : w.heap.size < w3.heap.size := by (have := hb3.size; first | omega | (simp at this; omega))
    have hz3_1 : w2.heap.size < w3.heap.size := by (have := hb3.size; first | omega | (simp at this; omega))
    have HB3 : Hid (Below w.heap.size w w3) := by
      refine Lib.hid (Below.trans ?_ (hb3.mono (by first | omega | (simp <;> omega))))
      repeat (first | exact HB2.out | exact Below.refl _ _ | refine Below.alloc ?_ (by first | omega | (simp <;> omega)) _ | refine Below.setCell ?_ (by first | omega | (simp <;> omega)) _ | refine below_drewN ?_ _ | refine Below.drew ?_)
    clear hb3
    go_wp2_with fail
    refine (QP.out _).mono ?_; rintro e w' ⟨rfl, rfl⟩
    go_wp2_with fail
    refine (z_any _ _ _ _).mono ?_; rintro e w4 ⟨rfl, hb4⟩
    obtain ⟨hc4, hf4⟩ := bcell hb4
    have hz4_0 : w.heap.size < w4.heap.size := by (have := hb4.size; first | omega | (simp at this; omega))
    have hz4_1 : w2.heap.size < w4.heap.size := by (have := hb4.size; first | omega | (simp at this; omega))
    have HB4 : Hid (Below w.heap.size w w4) := by
      refine Lib.hid (Below.trans ?_ (hb4.mono (by first | omega | (simp <;> omega))))
      repeat (first | exact HB3.out | exact Below.refl _ _ | refine Below.alloc ?_ (by first | omega | (simp <;> omega)) _ | refine Below.setCell ?_ (by first | omega | (simp <;> omega)) _ | refine below_drewN ?_ _ | refine Below.drew ?_)
    clear hb4
    go_wp2_with fail
    refine (QV.out _).mono ?_; rintro e w' ⟨rfl, rfl⟩
    go_wp2_with fail
    go_ret
    exact ⟨rfl, by repeat (first | exact HB4.out | exact Below.refl _ _ | refine Below.alloc ?_ (by first | omega | (simp <;> omega)) _ | refine Below.setCell ?_ (by first | omega | (simp <;> omega)) _ | refine below_drewN ?_ _ | refine Below.drew ?_)⟩
set_option maxRecDepth 100000 in
set_option maxHeartbeats 1000000 in
theorem makes_no_none (x y : Int) (raw : Bool) (re im : Int) (hok : okR re im = false) (h : numC (zw raw x) (zw raw y) = none) (w : World) :
    Calls Tryd.prog 3 #[.agg #[.int .i64 x, .int .i64 y, .bool raw], .int .i64 re, .int .i64 im] w fun e w' => e = .returned (.bool true) ∧ Below w.heap.size w w' := by
  have QO := Lib.hid (fun w => of_none (zw_lt raw x) (zw_lt raw y) h w)
  have QP := Lib.hid (fun w => parts_none (zw_lt raw x) (zw_lt raw y) h w)
  have QV := Lib.hid (fun w => valid_none (zw_lt raw x) (zw_lt raw y) h w)
  clear h
  have QM := Lib.hid (fun w => make_no hok w)
  have QB := Lib.hid (fun w => bits_self 0 0 w)
  have hc := okR_no hok
  clear hok
  by_cases h1 : re < -16777216
  · clear hc
    go_enter Tryd.func3, Tryd.ntmps3
    go_wp2_with fail
    refine (awake_any _).mono ?_; rintro e w' ⟨rfl, rfl⟩
    go_wp2_with fail
    refine (QM.out _).mono ?_; rintro e w' ⟨rfl, rfl⟩
    go_wp2_with fail
    refine (QB.out _).mono ?_; rintro e w' ⟨rfl, rfl⟩
    go_wp2_with fail
    refine (z_any _ _ _ _).mono ?_; rintro e w1 ⟨rfl, hb1⟩
    obtain ⟨hc1, hf1⟩ := bcell hb1
    have hz1_0 : w.heap.size < w1.heap.size := by (have := hb1.size; first | omega | (simp at this; omega))
    have HB1 : Hid (Below w.heap.size w w1) := by
      refine Lib.hid (Below.trans ?_ (hb1.mono (by first | omega | (simp <;> omega))))
      repeat (first | exact Below.refl _ _ | refine Below.alloc ?_ (by first | omega | (simp <;> omega)) _ | refine Below.setCell ?_ (by first | omega | (simp <;> omega)) _ | refine below_drewN ?_ _ | refine Below.drew ?_)
    clear hb1
    go_wp2_with fail
    refine (QO.out _).mono ?_; rintro e w2 ⟨rfl, hb2⟩
    obtain ⟨hc2, hf2⟩ := bcell hb2
    have hz2_0 : w.heap.size < w2.heap.size := by (have := hb2.size; first | omega | (simp at this; omega))
    have HB2 : Hid (Below w.heap.size w w2) := by
      refine Lib.hid (Below.trans ?_ (hb2.mono (by first | omega | (simp <;> omega))))
      repeat (first | exact HB1.out | exact Below.refl _ _ | refine Below.alloc ?_ (by first | omega | (simp <;> omega)) _ | refine Below.setCell ?_ (by first | omega | (simp <;> omega)) _ | refine below_drewN ?_ _ | refine Below.drew ?_)
    clear hb2
    go_wp2_with fail
    refine (z_any _ _ _ _).mono ?_; rintro e w3 ⟨rfl, hb3⟩
    obtain ⟨hc3, hf3⟩ := bcell hb3
    have hz3_0 : w.heap.size < w3.heap.size := by (have := hb3.size; first | omega | (simp at this; omega))
    have hz3_1 : w2.heap.size < w3.heap.size := by (have := hb3.size; first | omega | (simp at this; omega))
    have HB3 : Hid (Below w.heap.size w w3) := by
      refine Lib.hid (Below.trans ?_ (hb3.mono (by first | omega | (simp <;> omega))))
      repeat (first | exact HB2.out | exact Below.refl _ _ | refine Below.alloc ?_ (by first | omega | (simp <;> omega)) _ | refine Below.setCell ?_ (by first | omega | (simp <;> omega)) _ | refine below_drewN ?_ _ | refine Below.drew ?_)
    clear hb3
    go_wp2_with fail
    refine (QP.out _).mono ?_; rintro e w' ⟨rfl, rfl⟩
    go_wp2_with fail
    refine (z_any _ _ _ _).mono ?_; rintro e w4 ⟨rfl, hb4⟩
    obtain ⟨hc4, hf4⟩ := bcell hb4
    have hz4_0 : w.heap.size < w4.heap.size := by (have := hb4.size; first | omega | (simp at this; omega))
    have hz4_1 : w2.heap.size < w4.heap.size := by (have := hb4.size; first | omega | (simp at this; omega))
    have HB4 : Hid (Below w.heap.size w w4) := by
      refine Lib.hid (Below.trans ?_ (hb4.mono (by first | omega | (simp <;> omega))))
      repeat (first | exact HB3.out | exact Below.refl _ _ | refine Below.alloc ?_ (by first | omega | (simp <;> omega)) _ | refine Below.setCell ?_ (by first | omega | (simp <;> omega)) _ | refine below_drewN ?_ _ | refine Below.drew ?_)
    clear hb4
    go_wp2_with fail
    refine (QV.out _).mono ?_; rintro e w' ⟨rfl, rfl⟩
    go_wp2_with fail
    go_ret
    exact ⟨rfl, by repeat (first | exact HB4.out | exact Below.refl _ _ | refine Below.alloc ?_ (by first | omega | (simp <;> omega)) _ | refine Below.setCell ?_ (by first | omega | (simp <;> omega)) _ | refine below_drewN ?_ _ | refine Below.drew ?_)⟩
  by_cases h2 : 16777216 < re
  · clear hc
    go_enter Tryd.func3, Tryd.ntmps3
    go_wp2_with fail
    refine (awake_any _).mono ?_; rintro e w' ⟨rfl, rfl⟩
    go_wp2_with fail
    refine (QM.out _).mono ?_; rintro e w' ⟨rfl, rfl⟩
    go_wp2_with fail
    refine (QB.out _).mono ?_; rintro e w' ⟨rfl, rfl⟩
    go_wp2_with fail
    refine (z_any _ _ _ _).mono ?_; rintro e w1 ⟨rfl, hb1⟩
    obtain ⟨hc1, hf1⟩ := bcell hb1
    have hz1_0 : w.heap.size < w1.heap.size := by (have := hb1.size; first | omega | (simp at this; omega))
    have HB1 : Hid (Below w.heap.size w w1) := by
      refine Lib.hid (Below.trans ?_ (hb1.mono (by first | omega | (simp <;> omega))))
      repeat (first | exact Below.refl _ _ | refine Below.alloc ?_ (by first | omega | (simp <;> omega)) _ | refine Below.setCell ?_ (by first | omega | (simp <;> omega)) _ | refine below_drewN ?_ _ | refine Below.drew ?_)
    clear hb1
    go_wp2_with fail
    refine (QO.out _).mono ?_; rintro e w2 ⟨rfl, hb2⟩
    obtain ⟨hc2, hf2⟩ := bcell hb2
    have hz2_0 : w.heap.size < w2.heap.size := by (have := hb2.size; first | omega | (simp at this; omega))
    have HB2 : Hid (Below w.heap.size w w2) := by
      refine Lib.hid (Below.trans ?_ (hb2.mono (by first | omega | (simp <;> omega))))
      repeat (first | exact HB1.out | exact Below.refl _ _ | refine Below.alloc ?_ (by first | omega | (simp <;> omega)) _ | refine Below.setCell ?_ (by first | omega | (simp <;> omega)) _ | refine below_drewN ?_ _ | refine Below.drew ?_)
    clear hb2
    go_wp2_with fail
    refine (z_any _ _ _ _).mono ?_; rintro e w3 ⟨rfl, hb3⟩
    obtain ⟨hc3, hf3⟩ := bcell hb3
    have hz3_0 : w.heap.size < w3.heap.size := by (have := hb3.size; first | omega | (simp at this; omega))
    have hz3_1 : w2.heap.size < w3.heap.size := by (have := hb3.size; first | omega | (simp at this; omega))
    have HB3 : Hid (Below w.heap.size w w3) := by
      refine Lib.hid (Below.trans ?_ (hb3.mono (by first | omega | (simp <;> omega))))
      repeat (first | exact HB2.out | exact Below.refl _ _ | refine Below.alloc ?_ (by first | omega | (simp <;> omega)) _ | refine Below.setCell ?_ (by first | omega | (simp <;> omega)) _ | refine below_drewN ?_ _ | refine Below.drew ?_)
    clear hb3
    go_wp2_with fail
    refine (QP.out _).mono ?_; rintro e w' ⟨rfl, rfl⟩
    go_wp2_with fail
    refine (z_any _ _ _ _).mono ?_; rintro e w4 ⟨rfl, hb4⟩
    obtain ⟨hc4, hf4⟩ := bcell hb4
    have hz4_0 : w.heap.size < w4.heap.size := by (have := hb4.size; first | omega | (simp at this; omega))
    have hz4_1 : w2.heap.size < w4.heap.size := by (have := hb4.size; first | omega | (simp at this; omega))
    have HB4 : Hid (Below w.heap.size w w4) := by
      refine Lib.hid (Below.trans ?_ (hb4.mono (by first | omega | (simp <;> omega))))
      repeat (first | exact HB3.out | exact Below.refl _ _ | refine Below.alloc ?_ (by first | omega | (simp <;> omega)) _ | refine Below.setCell ?_ (by first | omega | (simp <;> omega)) _ | refine below_drewN ?_ _ | refine Below.drew ?_)
    clear hb4
    go_wp2_with fail
    refine (QV.out _).mono ?_; rintro e w' ⟨rfl, rfl⟩
    go_wp2_with fail
    go_ret
    exact ⟨rfl, by repeat (first | exact HB4.out | exact Below.refl _ _ | refine Below.alloc ?_ (by first | omega | (simp <;> omega)) _ | refine Below.setCell ?_ (by first | omega | (simp <;> omega)) _ | refine below_drewN ?_ _ | refine Below.drew ?_)⟩
  by_cases h3 : im < -16777216
  · clear hc
    go_enter Tryd.func3, Tryd.ntmps3
    go_wp2_with fail
    refine (awake_any _).mono ?_; rintro e w' ⟨rfl, rfl⟩
    go_wp2_with fail
    refine (QM.out _).mono ?_; rintro e w' ⟨rfl, rfl⟩
    go_wp2_with fail
    refine (QB.out _).mono ?_; rintro e w' ⟨rfl, rfl⟩
    go_wp2_with fail
    refine (z_any _ _ _ _).mono ?_; rintro e w1 ⟨rfl, hb1⟩
    obtain ⟨hc1, hf1⟩ := bcell hb1
    have hz1_0 : w.heap.size < w1.heap.size := by (have := hb1.size; first | omega | (simp at this; omega))
    have HB1 : Hid (Below w.heap.size w w1) := by
      refine Lib.hid (Below.trans ?_ (hb1.mono (by first | omega | (simp <;> omega))))
      repeat (first | exact Below.refl _ _ | refine Below.alloc ?_ (by first | omega | (simp <;> omega)) _ | refine Below.setCell ?_ (by first | omega | (simp <;> omega)) _ | refine below_drewN ?_ _ | refine Below.drew ?_)
    clear hb1
    go_wp2_with fail
    refine (QO.out _).mono ?_; rintro e w2 ⟨rfl, hb2⟩
    obtain ⟨hc2, hf2⟩ := bcell hb2
    have hz2_0 : w.heap.size < w2.heap.size := by (have := hb2.size; first | omega | (simp at this; omega))
    have HB2 : Hid (Below w.heap.size w w2) := by
      refine Lib.hid (Below.trans ?_ (hb2.mono (by first | omega | (simp <;> omega))))
      repeat (first | exact HB1.out | exact Below.refl _ _ | refine Below.alloc ?_ (by first | omega | (simp <;> omega)) _ | refine Below.setCell ?_ (by first | omega | (simp <;> omega)) _ | refine below_drewN ?_ _ | refine Below.drew ?_)
    clear hb2
    go_wp2_with fail
    refine (z_any _ _ _ _).mono ?_; rintro e w3 ⟨rfl, hb3⟩
    obtain ⟨hc3, hf3⟩ := bcell hb3
    have hz3_0 : w.heap.size < w3.heap.size := by (have := hb3.size; first | omega | (simp at this; omega))
    have hz3_1 : w2.heap.size < w3.heap.size := by (have := hb3.size; first | omega | (simp at this; omega))
    have HB3 : Hid (Below w.heap.size w w3) := by
      refine Lib.hid (Below.trans ?_ (hb3.mono (by first | omega | (simp <;> omega))))
      repeat (first | exact HB2.out | exact Below.refl _ _ | refine Below.alloc ?_ (by first | omega | (simp <;> omega)) _ | refine Below.setCell ?_ (by first | omega | (simp <;> omega)) _ | refine below_drewN ?_ _ | refine Below.drew ?_)
    clear hb3
    go_wp2_with fail
    refine (QP.out _).mono ?_; rintro e w' ⟨rfl, rfl⟩
    go_wp2_with fail
    refine (z_any _ _ _ _).mono ?_; rintro e w4 ⟨rfl, hb4⟩
    obtain ⟨hc4, hf4⟩ := bcell hb4
    have hz4_0 : w.heap.size < w4.heap.size := by (have := hb4.size; first | omega | (simp at this; omega))
    have hz4_1 : w2.heap.size < w4.heap.size := by (have := hb4.size; first | omega | (simp at this; omega))
    have HB4 : Hid (Below w.heap.size w w4) := by
      refine Lib.hid (Below.trans ?_ (hb4.mono (by first | omega | (simp <;> omega))))
      repeat (first | exact HB3.out | exact Below.refl _ _ | refine Below.alloc ?_ (by first | omega | (simp <;> omega)) _ | refine Below.setCell ?_ (by first | omega | (simp <;> omega)) _ | refine below_drewN ?_ _ | refine Below.drew ?_)
    clear hb4
    go_wp2_with fail
    refine (QV.out _).mono ?_; rintro e w' ⟨rfl, rfl⟩
    go_wp2_with fail
    go_ret
    exact ⟨rfl, by repeat (first | exact HB4.out | exact Below.refl _ _ | refine Below.alloc ?_ (by first | omega | (simp <;> omega)) _ | refine Below.setCell ?_ (by first | omega | (simp <;> omega)) _ | refine below_drewN ?_ _ | refine Below.drew ?_)⟩
  · have h4 : 16777216 < im := by omega
    clear hc
    go_enter Tryd.func3, Tryd.ntmps3
    go_wp2_with fail
    refine (awake_any _).mono ?_; rintro e w' ⟨rfl, rfl⟩
    go_wp2_with fail
    refine (QM.out _).mono ?_; rintro e w' ⟨rfl, rfl⟩
    go_wp2_with fail
    refine (QB.out _).mono ?_; rintro e w' ⟨rfl, rfl⟩
    go_wp2_with fail
    refine (z_any _ _ _ _).mono ?_; rintro e w1 ⟨rfl, hb1⟩
    obtain ⟨hc1, hf1⟩ := bcell hb1
    have hz1_0 : w.heap.size < w1.heap.size := by (have := hb1.size; first | omega | (simp at this; omega))
    have HB1 : Hid (Below w.heap.size w w1) := by
      refine Lib.hid (Below.trans ?_ (hb1.mono (by first | omega | (simp <;> omega))))
      repeat (first | exact Below.refl _ _ | refine Below.alloc ?_ (by first | omega | (simp <;> omega)) _ | refine Below.setCell ?_ (by first | omega | (simp <;> omega)) _ | refine below_drewN ?_ _ | refine Below.drew ?_)
    clear hb1
    go_wp2_with fail
    refine (QO.out _).mono ?_; rintro e w2 ⟨rfl, hb2⟩
    obtain ⟨hc2, hf2⟩ := bcell hb2
    have hz2_0 : w.heap.size < w2.heap.size := by (have := hb2.size; first | omega | (simp at this; omega))
    have HB2 : Hid (Below w.heap.size w w2) := by
      refine Lib.hid (Below.trans ?_ (hb2.mono (by first | omega | (simp <;> omega))))
      repeat (first | exact HB1.out | exact Below.refl _ _ | refine Below.alloc ?_ (by first | omega | (simp <;> omega)) _ | refine Below.setCell ?_ (by first | omega | (simp <;> omega)) _ | refine below_drewN ?_ _ | refine Below.drew ?_)
    clear hb2
    go_wp2_with fail
    refine (z_any _ _ _ _).mono ?_; rintro e w3 ⟨rfl, hb3⟩
    obtain ⟨hc3, hf3⟩ := bcell hb3
    have hz3_0 : w.heap.size < w3.heap.size := by (have := hb3.size; first | omega | (simp at this; omega))
    have hz3_1 : w2.heap.size < w3.heap.size := by (have := hb3.size; first | omega | (simp at this; omega))
    have HB3 : Hid (Below w.heap.size w w3) := by
      refine Lib.hid (Below.trans ?_ (hb3.mono (by first | omega | (simp <;> omega))))
      repeat (first | exact HB2.out | exact Below.refl _ _ | refine Below.alloc ?_ (by first | omega | (simp <;> omega)) _ | refine Below.setCell ?_ (by first | omega | (simp <;> omega)) _ | refine below_drewN ?_ _ | refine Below.drew ?_)
    clear hb3
    go_wp2_with fail
    refine (QP.out _).mono ?_; rintro e w' ⟨rfl, rfl⟩
    go_wp2_with fail
    refine (z_any _ _ _ _).mono ?_; rintro e w4 ⟨rfl, hb4⟩
    obtain ⟨hc4, hf4⟩ := bcell hb4
    have hz4_0 : w.heap.size < w4.heap.size := by (have := hb4.size; first | omega | (simp at this; omega))
    have hz4_1 : w2.heap.size < w4.heap.size := by (have := hb4.size; first | omega | (simp at this; omega))
    have HB4 : Hid (Below w.heap.size w w4) := by
      refine Lib.hid (Below.trans ?_ (hb4.mono (by first | omega | (simp <;> omega))))
      repeat (first | exact HB3.out | exact Below.refl _ _ | refine Below.alloc ?_ (by first | omega | (simp <;> omega)) _ | refine Below.setCell ?_ (by first | omega | (simp <;> omega)) _ | refine below_drewN ?_ _ | refine Below.drew ?_)
    clear hb4
    go_wp2_with fail
    refine (QV.out _).mono ?_; rintro e w' ⟨rfl, rfl⟩
    go_wp2_with fail
    go_ret
    exact ⟨rfl, by repeat (first | exact HB4.out | exact Below.refl _ _ | refine Below.alloc ?_ (by first | omega | (simp <;> omega)) _ | refine Below.setCell ?_ (by first | omega | (simp <;> omega)) _ | refine below_drewN ?_ _ | refine Below.drew ?_)⟩

theorem makes_any (x y : Int) (raw : Bool) (re im : Int) (w : World) :
    Calls Tryd.prog 3 #[.agg #[.int .i64 x, .int .i64 y, .bool raw], .int .i64 re, .int .i64 im] w fun e w' => e = .returned (.bool true) ∧ Below w.heap.size w w' := by
  cases h : numC (zw raw x) (zw raw y) with
  | none => cases hok : okR re im
            · exact makes_no_none x y raw re im hok h w
            · exact makes_yes_none x y raw re im hok h w
  | some p => obtain ⟨u, v⟩ := p
              cases hok : okR re im
              · exact makes_no_some x y raw re im u v hok h w
              · exact makes_yes_some x y raw re im u v hok h w
end Go.Proofs.YtipcjffbjkpmbaaDoor
