/- The walk of GaussMakes: whatever the arguments, true. -/
import Derived.Test.YtbhkclkahblfnaaGreatDoorRefc
namespace Go.Proofs.YtbhkclkahblfnaaGreatDoor
open Go.RowKit Flo
theorem of_none {a b : Nat} (ha : a < 18446744073709551616) (hb : b < 18446744073709551616) (h : numC a b = none) (w : World) :
    Calls Tryz.prog 42 #[.complex .f64 a b] w fun e w' => e = .returned (.tuple #[.agg #[.int .i64 0, .int .i64 0], .bool false]) ∧ Below w.heap.size w w' := by
  have q := of_any a b ha hb w; rw [h] at q; exact q
theorem of_some {a b : Nat} {x y : Int} (ha : a < 18446744073709551616) (hb : b < 18446744073709551616) (h : numC a b = some (x, y)) (w : World) :
    Calls Tryz.prog 42 #[.complex .f64 a b] w fun e w' => e = .returned (.tuple #[.agg #[.int .i64 x, .int .i64 y], .bool true]) ∧ Below w.heap.size w w' := by
  have q := of_any a b ha hb w; rw [h] at q; exact q
theorem parts_none {a b : Nat} (ha : a < 18446744073709551616) (hb : b < 18446744073709551616) (h : numC a b = none) (w : World) :
    Calls Tryz.prog 65 #[.complex .f64 a b] w fun e w' => e = .returned (.tuple #[.int .i64 0, .int .i64 0, .int .i64 3]) ∧ w = w' := by
  have q := parts_any a b ha hb w; rw [h] at q; exact q
theorem parts_some {a b : Nat} {x y : Int} (ha : a < 18446744073709551616) (hb : b < 18446744073709551616) (h : numC a b = some (x, y)) (w : World) :
    Calls Tryz.prog 65 #[.complex .f64 a b] w fun e w' => e = .returned (.tuple #[.int .i64 x, .int .i64 y, .int .i64 0]) ∧ w = w' := by
  have q := parts_any a b ha hb w; rw [h] at q; exact q
theorem valid_none {a b : Nat} (ha : a < 18446744073709551616) (hb : b < 18446744073709551616) (h : numC a b = none) (w : World) :
    Calls Tryz.prog 43 #[.complex .f64 a b] w fun e w' => e = .returned (.bool false) ∧ w = w' := by
  have q := valid_any a b ha hb w; rw [h] at q; exact q
theorem valid_some {a b : Nat} {x y : Int} (ha : a < 18446744073709551616) (hb : b < 18446744073709551616) (h : numC a b = some (x, y)) (w : World) :
    Calls Tryz.prog 43 #[.complex .f64 a b] w fun e w' => e = .returned (.bool true) ∧ w = w' := by
  have q := valid_any a b ha hb w; rw [h] at q; exact q
theorem make_no {x y : Int} (h : okR x y = false) (w : World) :
    Calls Tryz.prog 80 #[.int .i64 x, .int .i64 y] w fun e w' => e = .returned (.tuple #[.complex .f64 0 0, .int .i64 2]) ∧ w = w' := by
  have q := make_any x y w
  unfold gMake at q; rw [make_neg h] at q; simp only [W0] at q; exact q
theorem make_yes {x y : Int} (h : okR x y = true) (w : World) :
    Calls Tryz.prog 80 #[.int .i64 x, .int .i64 y] w fun e w' => e = .returned (.tuple #[.complex .f64 (W x) (W y), .int .i64 0]) ∧ w = w' := by
  have q := make_any x y w
  unfold gMake at q; rw [make_pos h] at q; exact q
theorem okR_no {x y : Int} (h : okR x y = false) : x < -16777216 ∨ 16777216 < x ∨ y < -16777216 ∨ 16777216 < y := by
  have hr : ¬ ((-16777216 ≤ x ∧ x ≤ 16777216) ∧ (-16777216 ≤ y ∧ y ≤ 16777216)) := fun h' => by have := okR_iff.2 h'; rw [h] at this; cases this
  by_cases h1 : -16777216 ≤ x <;> by_cases h2 : x ≤ 16777216 <;> by_cases h3 : -16777216 ≤ y <;> by_cases h4 : y ≤ 16777216 <;> first | omega | exact (hr ⟨⟨h1, h2⟩, h3, h4⟩).elim
end Go.Proofs.YtbhkclkahblfnaaGreatDoor
