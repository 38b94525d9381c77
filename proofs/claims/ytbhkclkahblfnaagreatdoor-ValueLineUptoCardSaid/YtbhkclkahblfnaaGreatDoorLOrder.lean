/- The walk of GaussOrder: whatever the arguments, true. -/
import Derived.Test.YtbhkclkahblfnaaGreatDoorLQuos
import Derived.Test.YtbhkclkahblfnaaGreatDoorGl
namespace Go.Proofs.YtbhkclkahblfnaaGreatDoor
open Go.RowKit Flo
theorem z_some {x y : Int} {raw : Bool} {a b : Int} (h : numC (zw raw x) (zw raw y) = some (a, b)) (w : World) :
    Calls Tryz.prog 25 #[.agg #[.int .i64 x, .int .i64 y, .bool raw]] w fun e w' => e = .returned (.complex .f64 (W a) (W b)) ∧ Below w.heap.size w w' := by
  have q := z_any x y raw w
  rw [numOf_eq (numC_some h).1, numOf_eq (numC_some h).2] at q; exact q
theorem valid_W {a b : Int} (h : okR a b = true) (w : World) :
    Calls Tryz.prog 43 #[.complex .f64 (W a) (W b)] w fun e w' => e = .returned (.bool true) ∧ w = w' :=
  valid_some (W_lt' _) (W_lt' _) (numC_W (okR_iff.1 h).1 (okR_iff.1 h).2) w
theorem okR_of {x y : Int} {raw : Bool} {a b : Int} (h : numC (zw raw x) (zw raw y) = some (a, b)) : okR a b = true :=
  okR_iff.2 ⟨numOf_rng (numC_some h).1, numOf_rng (numC_some h).2⟩
theorem numC_R {a b : Int} (h : okR a b = true) : numC (W a) (W b) = some (a, b) := numC_W (okR_iff.1 h).1 (okR_iff.1 h).2
theorem okR_neg {a b : Int} (h : okR a b = true) : okR a (-b) = true := by
  have := okR_iff.1 h; exact okR_iff.2 (by omega)
theorem okR_neg' {a b : Int} (h : okR a b = false) : okR a (-b) = false := by
  cases hk : okR a (-b)
  · rfl
  · have := okR_neg hk; rw [Int.neg_neg, h] at this; cases this
end Go.Proofs.YtbhkclkahblfnaaGreatDoor

