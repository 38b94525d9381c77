/- What the helpers of the statements of layer 1 answer. -/
import Derived.Test.YtipcjffbjkpmbaaDoorRefb
namespace Go.Proofs.YtipcjffbjkpmbaaDoor
open Go.RowKit Flo
set_option maxHeartbeats 400000 in
theorem told_any (a b : Nat) (e x y f : Int) (w : World) :
    Calls Tryd.prog 25 #[.complex .f64 a b, .int .i64 e, .agg #[.int .i64 x, .int .i64 y], .int .i64 f] w fun en w' => en = .returned (.bool (decide (e = f ∧ a = W x ∧ b = W y))) ∧ Below w.heap.size w w' := by
  by_cases h1 : e = f
  · subst h1
    have Q := Lib.hid (fun w => bits_any a b (W x) (W y) w)
    go_enter Tryd.func25, Tryd.ntmps25
    go_wp2_with fail
    refine (refZ_any _ _ _).mono ?_; rintro en w1 ⟨rfl, hb⟩
    go_wp2_with fail
    refine (Q.out _).mono ?_; rintro en w' ⟨rfl, rfl⟩
    go_wp2_with fail
    go_ret
    exact ⟨ret_bool (by simp), ((Below.refl _ _).alloc (Nat.le_refl _) _).trans (hb.mono (by simp <;> omega))⟩
  · have h3 : (e == f) = false := by simpa using h1
    have H1 := Lib.hid h1; clear h1
    go_enter Tryd.func25, Tryd.ntmps25
    go_wp2_with fail
    go_ret
    exact ⟨ret_bool (by simp [H1.out]), (Below.refl _ _).alloc (Nat.le_refl _) _⟩
def lessB (x y u v : Int) : Bool := decide (x < u ∨ x = u ∧ y < v)
theorem ret_boolR {a b : Bool} (h : b = a) : Ending.returned (.bool a) = .returned (.bool b) := by rw [h]
set_option maxHeartbeats 400000 in
theorem refLess_any (x y u v : Int) (w : World) :
    Calls Tryd.prog 30 #[.agg #[.int .i64 x, .int .i64 y], .agg #[.int .i64 u, .int .i64 v]] w fun en w' => en = .returned (.bool (lessB x y u v)) ∧ Below w.heap.size w w' := by
  by_cases h1 : x < u
  · have HD := Lib.hid (show lessB x y u v = true from decide_eq_true (.inl h1))
    go_enter Tryd.func30, Tryd.ntmps30
    go_wp2_with fail
    go_ret
    exact ⟨ret_boolR HD.out, ((Below.refl _ _).alloc (Nat.le_refl _) _).alloc (by simp) _⟩
  · by_cases h2 : x = u
    · subst h2
      have HD := Lib.hid (show lessB x y x v = decide (y < v) by unfold lessB; rw [decide_eq_decide]; omega)
      go_enter Tryd.func30, Tryd.ntmps30
      go_wp2_with fail
      go_ret
      exact ⟨ret_boolR HD.out, ((Below.refl _ _).alloc (Nat.le_refl _) _).alloc (by simp) _⟩
    · have HD := Lib.hid (show lessB x y u v = false from decide_eq_false (by omega))
      have h3 : (x == u) = false := by simpa using h2
      clear h2
      go_enter Tryd.func30, Tryd.ntmps30
      go_wp2_with fail
      go_ret
      exact ⟨ret_boolR HD.out, ((Below.refl _ _).alloc (Nat.le_refl _) _).alloc (by simp) _⟩
set_option maxRecDepth 100000 in
set_option maxHeartbeats 400000 in
theorem small_23 (w : World) : Calls Tryd.prog 88 #[.int .i64 23] w fun e w' => e = .returned (.string ⟨#[50, 51]⟩) ∧ w = w' := by
  go_enter Tryd.func88, Tryd.ntmps88
  go_wp2_with fail
  go_ret
  exact ⟨congrArg (fun s => Ending.returned (Value.string s)) (by decide +kernel), rfl⟩
set_option maxRecDepth 100000 in
set_option maxHeartbeats 400000 in
theorem format_23 (w : World) : Calls Tryd.prog 73 #[.int .i64 23, .int .i64 10] w fun e w' => e = .returned (.string ⟨#[50, 51]⟩) ∧ w = w' := by
  go_enter Tryd.func73, Tryd.ntmps73
  go_wp2_with fail
  refine (small_23 _).mono ?_; rintro e w' ⟨rfl, rfl⟩
  go_wp2_with fail
  go_ret
  exact ⟨rfl, rfl⟩
set_option maxHeartbeats 400000 in
theorem itoa_23 (w : World) : Calls Tryd.prog 43 #[.int .i64 23] w fun e w' => e = .returned (.string ⟨#[50, 51]⟩) ∧ w = w' := by
  have hi : ∀ w, Calls Tryd.prog 55 #[.int .i64 23] w fun e w' => e = .returned (.string ⟨#[50, 51]⟩) ∧ w = w' := by
    intro w
    go_enter Tryd.func55, Tryd.ntmps55
    go_wp2_with fail
    refine (format_23 _).mono ?_; rintro e w' ⟨rfl, rfl⟩
    go_wp2_with fail
    go_ret
    exact ⟨rfl, rfl⟩
  have Q := Lib.hid hi; clear hi
  go_enter Tryd.func43, Tryd.ntmps43
  go_wp2_with fail
  refine (Q.out _).mono ?_; rintro e w' ⟨rfl, rfl⟩
  go_wp2_with fail
  go_ret
  exact ⟨rfl, rfl⟩
set_option maxRecDepth 100000 in
set_option maxHeartbeats 400000 in
theorem small_2 (w : World) : Calls Tryd.prog 88 #[.int .i64 2] w fun e w' => e = .returned (.string ⟨#[50]⟩) ∧ w = w' := by
  go_enter Tryd.func88, Tryd.ntmps88
  go_wp2_with fail
  go_ret
  exact ⟨congrArg (fun s => Ending.returned (Value.string s)) (by decide +kernel), rfl⟩
set_option maxRecDepth 100000 in
set_option maxHeartbeats 400000 in
theorem format_2 (w : World) : Calls Tryd.prog 73 #[.int .i64 2, .int .i64 10] w fun e w' => e = .returned (.string ⟨#[50]⟩) ∧ w = w' := by
  go_enter Tryd.func73, Tryd.ntmps73
  go_wp2_with fail
  refine (small_2 _).mono ?_; rintro e w' ⟨rfl, rfl⟩
  go_wp2_with fail
  go_ret
  exact ⟨rfl, rfl⟩
set_option maxHeartbeats 400000 in
theorem itoa_2 (w : World) : Calls Tryd.prog 43 #[.int .i64 2] w fun e w' => e = .returned (.string ⟨#[50]⟩) ∧ w = w' := by
  have hi : ∀ w, Calls Tryd.prog 55 #[.int .i64 2] w fun e w' => e = .returned (.string ⟨#[50]⟩) ∧ w = w' := by
    intro w
    go_enter Tryd.func55, Tryd.ntmps55
    go_wp2_with fail
    refine (format_2 _).mono ?_; rintro e w' ⟨rfl, rfl⟩
    go_wp2_with fail
    go_ret
    exact ⟨rfl, rfl⟩
  have Q := Lib.hid hi; clear hi
  go_enter Tryd.func43, Tryd.ntmps43
  go_wp2_with fail
  refine (Q.out _).mono ?_; rintro e w' ⟨rfl, rfl⟩
  go_wp2_with fail
  go_ret
  exact ⟨rfl, rfl⟩
set_option maxHeartbeats 400000 in
theorem text_23_2 (w : World) : Calls Tryd.prog 31 #[.complex .f64 (W 23) (W 2)] w fun e w' => e = .returned (.tuple #[.string ⟨#[50, 51, 43, 50, 105]⟩, .int .i64 0]) ∧ w = w' := by
  have Q := Lib.hid (fun w => parts_any (W 23) (W 2) (W_lt' _) (W_lt' _) w)
  rw [numC_W (by decide) (by decide)] at Q
  go_enter Tryd.func31, Tryd.ntmps31
  go_wp2_with fail
  refine (Q.out _).mono ?_; rintro e w' ⟨he, rfl⟩; unfold prt at he; subst he
  go_wp2_with fail
  refine (itoa_23 _).mono ?_; rintro e w' ⟨rfl, rfl⟩
  go_wp2_with fail
  refine (itoa_2 _).mono ?_; rintro e w' ⟨rfl, rfl⟩
  go_wp2_with fail
  go_ret2
  exact ⟨rfl, rfl⟩
theorem W_lit2 : W 2 = 4611686018427387904 := by decide +kernel
theorem W_lit3 : W 3 = 4613937818241073152 := by decide +kernel
theorem W_lit4 : W 4 = 4616189618054758400 := by decide +kernel
theorem W_lit5 : W (-5) = 13840687554816376832 := by decide +kernel
theorem mul_lit (w : World) : Calls Tryd.prog 19 #[.complex .f64 4611686018427387904 4613937818241073152, .complex .f64 4616189618054758400 13840687554816376832] w fun e w' => e = .returned (.tuple #[.complex .f64 (W 23) (W 2), .int .i64 0]) ∧ w = w' := by
  have q := mul_any (W 2) (W 3) (W 4) (W (-5)) (W_lt' _) (W_lt' _) (W_lt' _) (W_lt' _) w
  rw [numC_W (by decide) (by decide), numC_W (by decide) (by decide), show gMul (some (2, 3)) (some (4, -5)) = ((23, 2), 0) from by decide] at q
  rw [← W_lit2, ← W_lit3, ← W_lit4, ← W_lit5]
  exact q
set_option maxHeartbeats 400000 in
theorem awake_any (w : World) : Calls Tryd.prog 11 #[] w fun e w' => e = .returned (.bool true) ∧ w = w' := by
  have e1 : FloatKind.f64.format.order (W 23) 4627167142146473984 = some .eq := by decide +kernel
  have e2 : FloatKind.f64.format.order (W 2) 4611686018427387904 = some .eq := by decide +kernel
  go_enter Tryd.func11, Tryd.ntmps11
  go_wp2_with fail
  refine (mul_lit _).mono ?_; rintro e w' ⟨rfl, rfl⟩
  go_wp2_with fail
  refine (text_23_2 _).mono ?_; rintro e w' ⟨rfl, rfl⟩
  go_wp2_with fail
  go_ret
  exact ⟨rfl, rfl⟩
end Go.Proofs.YtipcjffbjkpmbaaDoor
