/- What the helpers of the statements of layer 1 answer. -/
import Derived.Test.YtedgcllgifiajaaDoorRefb
namespace Go.Proofs.YtedgcllgifiajaaDoor
open Go.RowKit Flo
def lessB (x y u v : Int) : Bool := decide (x < u ∨ x = u ∧ y < v)
theorem ret_boolR {a b : Bool} (h : b = a) : Ending.returned (.bool a) = .returned (.bool b) := by rw [h]
set_option maxRecDepth 100000 in
set_option maxHeartbeats 400000 in
theorem small_23 (w : World) : Calls Tryd.prog 79 #[.int .i64 23] w fun e w' => e = .returned (.string ⟨#[50, 51]⟩) ∧ w = w' := by
  go_enter Tryd.func79, Tryd.ntmps79
  go_wp2_with fail
  go_ret
  exact ⟨congrArg (fun s => Ending.returned (Value.string s)) (by decide +kernel), rfl⟩
set_option maxRecDepth 100000 in
set_option maxHeartbeats 400000 in
theorem format_23 (w : World) : Calls Tryd.prog 71 #[.int .i64 23, .int .i64 10] w fun e w' => e = .returned (.string ⟨#[50, 51]⟩) ∧ w = w' := by
  go_enter Tryd.func71, Tryd.ntmps71
  go_wp2_with fail
  refine (small_23 _).mono ?_; rintro e w' ⟨rfl, rfl⟩
  go_wp2_with fail
  go_ret
  exact ⟨rfl, rfl⟩
set_option maxHeartbeats 400000 in
theorem itoa_23 (w : World) : Calls Tryd.prog 49 #[.int .i64 23] w fun e w' => e = .returned (.string ⟨#[50, 51]⟩) ∧ w = w' := by
  have hi : ∀ w, Calls Tryd.prog 61 #[.int .i64 23] w fun e w' => e = .returned (.string ⟨#[50, 51]⟩) ∧ w = w' := by
    intro w
    go_enter Tryd.func61, Tryd.ntmps61
    go_wp2_with fail
    refine (format_23 _).mono ?_; rintro e w' ⟨rfl, rfl⟩
    go_wp2_with fail
    go_ret
    exact ⟨rfl, rfl⟩
  have Q := Lib.hid hi; clear hi
  go_enter Tryd.func49, Tryd.ntmps49
  go_wp2_with fail
  refine (Q.out _).mono ?_; rintro e w' ⟨rfl, rfl⟩
  go_wp2_with fail
  go_ret
  exact ⟨rfl, rfl⟩
set_option maxRecDepth 100000 in
set_option maxHeartbeats 400000 in
theorem small_2 (w : World) : Calls Tryd.prog 79 #[.int .i64 2] w fun e w' => e = .returned (.string ⟨#[50]⟩) ∧ w = w' := by
  go_enter Tryd.func79, Tryd.ntmps79
  go_wp2_with fail
  go_ret
  exact ⟨congrArg (fun s => Ending.returned (Value.string s)) (by decide +kernel), rfl⟩
set_option maxRecDepth 100000 in
set_option maxHeartbeats 400000 in
theorem format_2 (w : World) : Calls Tryd.prog 71 #[.int .i64 2, .int .i64 10] w fun e w' => e = .returned (.string ⟨#[50]⟩) ∧ w = w' := by
  go_enter Tryd.func71, Tryd.ntmps71
  go_wp2_with fail
  refine (small_2 _).mono ?_; rintro e w' ⟨rfl, rfl⟩
  go_wp2_with fail
  go_ret
  exact ⟨rfl, rfl⟩
set_option maxHeartbeats 400000 in
theorem itoa_2 (w : World) : Calls Tryd.prog 49 #[.int .i64 2] w fun e w' => e = .returned (.string ⟨#[50]⟩) ∧ w = w' := by
  have hi : ∀ w, Calls Tryd.prog 61 #[.int .i64 2] w fun e w' => e = .returned (.string ⟨#[50]⟩) ∧ w = w' := by
    intro w
    go_enter Tryd.func61, Tryd.ntmps61
    go_wp2_with fail
    refine (format_2 _).mono ?_; rintro e w' ⟨rfl, rfl⟩
    go_wp2_with fail
    go_ret
    exact ⟨rfl, rfl⟩
  have Q := Lib.hid hi; clear hi
  go_enter Tryd.func49, Tryd.ntmps49
  go_wp2_with fail
  refine (Q.out _).mono ?_; rintro e w' ⟨rfl, rfl⟩
  go_wp2_with fail
  go_ret
  exact ⟨rfl, rfl⟩
set_option maxHeartbeats 400000 in
theorem text_23_2 (w : World) : Calls Tryd.prog 35 #[.complex .f64 (W 23) (W 2)] w fun e w' => e = .returned (.tuple #[.string ⟨#[50, 51, 43, 50, 105]⟩, .int .i64 0]) ∧ w = w' := by
  have Q := Lib.hid (fun w => parts_any (W 23) (W 2) (W_lt' _) (W_lt' _) w)
  rw [numC_W (by decide) (by decide)] at Q
  go_enter Tryd.func35, Tryd.ntmps35
  go_wp2_with fail
  refine (Q.out _).mono ?_; rintro e w' ⟨he, rfl⟩; unfold prt at he; subst he
  go_wp2_with fail
  refine (itoa_23 _).mono ?_; rintro e w' ⟨rfl, rfl⟩
  go_wp2_with fail
  refine (itoa_2 _).mono ?_; rintro e w' ⟨rfl, rfl⟩
  go_wp2_with fail
  go_ret2
  exact ⟨rfl, rfl⟩
theorem W_lit2 : W 2 = 4611686018427387904 := by decide +kernel
theorem W_lit3 : W 3 = 4613937818241073152 := by decide +kernel
theorem W_lit4 : W 4 = 4616189618054758400 := by decide +kernel
theorem W_lit5 : W (-5) = 13840687554816376832 := by decide +kernel
end Go.Proofs.YtedgcllgifiajaaDoor
