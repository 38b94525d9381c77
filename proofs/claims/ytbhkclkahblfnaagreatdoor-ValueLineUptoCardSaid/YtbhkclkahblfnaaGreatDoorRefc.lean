/- What the helpers of the statements of layer 1 answer. -/
import Derived.Test.YtbhkclkahblfnaaGreatDoorRefb
namespace Go.Proofs.YtbhkclkahblfnaaGreatDoor
open Go.RowKit Flo
def lessB (x y u v : Int) : Bool := decide (x < u ∨ x = u ∧ y < v)
theorem ret_boolR {a b : Bool} (h : b = a) : Ending.returned (.bool a) = .returned (.bool b) := by rw [h]
set_option maxRecDepth 100000 in
set_option maxHeartbeats 400000 in
theorem small_23 (w : World) : Calls Tryz.prog 172 #[.int .i64 23] w fun e w' => e = .returned (.string ⟨#[50, 51]⟩) ∧ w = w' := by
  go_enter Tryz.func172, Tryz.ntmps172
  go_wp2_with fail
  go_ret
  exact ⟨congrArg (fun s => Ending.returned (Value.string s)) (by decide +kernel), rfl⟩
set_option maxRecDepth 100000 in
set_option maxHeartbeats 400000 in
theorem format_23 (w : World) : Calls Tryz.prog 137 #[.int .i64 23, .int .i64 10] w fun e w' => e = .returned (.string ⟨#[50, 51]⟩) ∧ w = w' := by
  go_enter Tryz.func137, Tryz.ntmps137
  go_wp2_with fail
  refine (small_23 _).mono ?_; rintro e w' ⟨rfl, rfl⟩
  go_wp2_with fail
  go_ret
  exact ⟨rfl, rfl⟩
set_option maxHeartbeats 400000 in
theorem itoa_23 (w : World) : Calls Tryz.prog 66 #[.int .i64 23] w fun e w' => e = .returned (.string ⟨#[50, 51]⟩) ∧ w = w' := by
  have hi : ∀ w, Calls Tryz.prog 98 #[.int .i64 23] w fun e w' => e = .returned (.string ⟨#[50, 51]⟩) ∧ w = w' := by
    intro w
    go_enter Tryz.func98, Tryz.ntmps98
    go_wp2_with fail
    refine (format_23 _).mono ?_; rintro e w' ⟨rfl, rfl⟩
    go_wp2_with fail
    go_ret
    exact ⟨rfl, rfl⟩
  have Q := Lib.hid hi; clear hi
  go_enter Tryz.func66, Tryz.ntmps66
  go_wp2_with fail
  refine (Q.out _).mono ?_; rintro e w' ⟨rfl, rfl⟩
  go_wp2_with fail
  go_ret
  exact ⟨rfl, rfl⟩
set_option maxRecDepth 100000 in
set_option maxHeartbeats 400000 in
theorem small_2 (w : World) : Calls Tryz.prog 172 #[.int .i64 2] w fun e w' => e = .returned (.string ⟨#[50]⟩) ∧ w = w' := by
  go_enter Tryz.func172, Tryz.ntmps172
  go_wp2_with fail
  go_ret
  exact ⟨congrArg (fun s => Ending.returned (Value.string s)) (by decide +kernel), rfl⟩
set_option maxRecDepth 100000 in
set_option maxHeartbeats 400000 in
theorem format_2 (w : World) : Calls Tryz.prog 137 #[.int .i64 2, .int .i64 10] w fun e w' => e = .returned (.string ⟨#[50]⟩) ∧ w = w' := by
  go_enter Tryz.func137, Tryz.ntmps137
  go_wp2_with fail
  refine (small_2 _).mono ?_; rintro e w' ⟨rfl, rfl⟩
  go_wp2_with fail
  go_ret
  exact ⟨rfl, rfl⟩
set_option maxHeartbeats 400000 in
theorem itoa_2 (w : World) : Calls Tryz.prog 66 #[.int .i64 2] w fun e w' => e = .returned (.string ⟨#[50]⟩) ∧ w = w' := by
  have hi : ∀ w, Calls Tryz.prog 98 #[.int .i64 2] w fun e w' => e = .returned (.string ⟨#[50]⟩) ∧ w = w' := by
    intro w
    go_enter Tryz.func98, Tryz.ntmps98
    go_wp2_with fail
    refine (format_2 _).mono ?_; rintro e w' ⟨rfl, rfl⟩
    go_wp2_with fail
    go_ret
    exact ⟨rfl, rfl⟩
  have Q := Lib.hid hi; clear hi
  go_enter Tryz.func66, Tryz.ntmps66
  go_wp2_with fail
  refine (Q.out _).mono ?_; rintro e w' ⟨rfl, rfl⟩
  go_wp2_with fail
  go_ret
  exact ⟨rfl, rfl⟩
set_option maxHeartbeats 400000 in
theorem text_23_2 (w : World) : Calls Tryz.prog 38 #[.complex .f64 (W 23) (W 2)] w fun e w' => e = .returned (.tuple #[.string ⟨#[50, 51, 43, 50, 105]⟩, .int .i64 0]) ∧ w = w' := by
  have Q := Lib.hid (fun w => parts_any (W 23) (W 2) (W_lt' _) (W_lt' _) w)
  rw [numC_W (by decide) (by decide)] at Q
  go_enter Tryz.func38, Tryz.ntmps38
  go_wp2_with fail
  refine (Q.out _).mono ?_; rintro e w' ⟨he, rfl⟩; unfold prt at he; subst he
  go_wp2_with fail
  refine (itoa_23 _).mono ?_; rintro e w' ⟨rfl, rfl⟩
  go_wp2_with fail
  refine (itoa_2 _).mono ?_; rintro e w' ⟨rfl, rfl⟩
  go_wp2_with fail
  go_ret2
  exact ⟨rfl, rfl⟩
theorem W_lit2 : W 2 = 4611686018427387904 := by decide +kernel
theorem W_lit3 : W 3 = 4613937818241073152 := by decide +kernel
theorem W_lit4 : W 4 = 4616189618054758400 := by decide +kernel
theorem W_lit5 : W (-5) = 13840687554816376832 := by decide +kernel
end Go.Proofs.YtbhkclkahblfnaaGreatDoor
