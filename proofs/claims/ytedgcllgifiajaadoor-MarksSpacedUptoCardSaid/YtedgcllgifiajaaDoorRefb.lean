/- What the functions of the reference of layer 1 and the helpers of its statements answer (2). -/
import Derived.Test.YtedgcllgifiajaaDoorRef
import Derived.Deep.RegionWith
import Derived.IntWalk
namespace Go.Proofs.YtedgcllgifiajaaDoor
open Go.RowKit Flo
/-- a number of the reference, with whether it is one -/
def ofV (p : Option (Int × Int)) : Value := match p with
  | some (x, y) => .tuple #[.agg #[.int .i64 x, .int .i64 y], .bool true]
  | none => .tuple #[.agg #[.int .i64 0, .int .i64 0], .bool false]
theorem quo_zero {x y u v : Int} (h : u = 0 ∧ v = 0) : quo x y u v = ((0, 0), 51) := if_pos h
theorem quo_no {x y u v : Int} (h : ¬ ((x * u + y * v).tmod (u * u + v * v) = 0 ∧ (y * u - x * v).tmod (u * u + v * v) = 0)) : quo x y u v = ((0, 0), 51) := by
  unfold quo; rw [if_neg h]; split <;> rfl
theorem quo_yes {x y u v : Int} (h0 : ¬ (u = 0 ∧ v = 0)) (h : (x * u + y * v).tmod (u * u + v * v) = 0 ∧ (y * u - x * v).tmod (u * u + v * v) = 0) : quo x y u v = bnd ((x * u + y * v).tdiv (u * u + v * v)) ((y * u - x * v).tdiv (u * u + v * v)) := by
  unfold quo; rw [if_neg h0, if_pos h]
end Go.Proofs.YtedgcllgifiajaaDoor
