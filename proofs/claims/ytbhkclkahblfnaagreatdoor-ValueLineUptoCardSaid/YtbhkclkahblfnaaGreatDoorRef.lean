/- What the functions of the reference of layer 1 and the helpers of its statements answer. -/
import Derived.Test.YtbhkclkahblfnaaGreatDoorGauq
import Derived.Deep.QuietTactic
import Derived.BigQuiet
import Derived.Laws.ResultCell
import Derived.Lib.SmallJoins
import Derived.ChangeAlike
namespace Go.Proofs.YtbhkclkahblfnaaGreatDoor
open Go.RowKit Flo
/-- the word of a part that is given by its bits -/
def rawW (n : Int) : Nat := (IntKind.u64.wrap n).toNat
theorem rawW_lt (n : Int) : rawW n < 18446744073709551616 := by
  have h1 := Int.emod_lt_of_pos n (show (0 : Int) < 18446744073709551616 by decide)
  have h2 := Int.emod_nonneg n (show (18446744073709551616 : Int) ≠ 0 by decide)
  unfold rawW
  rw [IntKind.wrap_u64]
  generalize n % 18446744073709551616 = t at *
  omega
theorem W_lt' (n : Int) : W n < 18446744073709551616 := by
  have := floatOfInt_wf .f64 n
  simp [Lit.wf] at this
  exact this
/-- the word of a part -/
def zw (raw : Bool) (n : Int) : Nat := if raw = true then rawW n else W n
theorem zw_true (n : Int) : zw true n = rawW n := by unfold zw; rw [if_pos rfl]
theorem zw_false (n : Int) : zw false n = W n := by unfold zw; rw [if_neg (by decide)]
theorem zw_lt (raw : Bool) (n : Int) : zw raw n < 18446744073709551616 := by
  cases raw
  · rw [zw_false]; exact W_lt' n
  · rw [zw_true]; exact rawW_lt n
theorem ret_cplx {a b c d : Nat} (h1 : a = c) (h2 : b = d) : Ending.returned (.complex .f64 a b) = .returned (.complex .f64 c d) := by rw [h1, h2]
set_option maxHeartbeats 400000 in
theorem z_any (x y : Int) (raw : Bool) (w : World) :
    Calls Tryz.prog 25 #[.agg #[.int .i64 x, .int .i64 y, .bool raw]] w fun e w' => e = .returned (.complex .f64 (zw raw x) (zw raw y)) ∧ Below w.heap.size w w' := by
  cases raw
  · rw [zw_false, zw_false]
    go_enter Tryz.func25, Tryz.ntmps25
    go_wp2_with fail
    go_ret
    exact ⟨rfl, (Below.refl _ _).alloc (Nat.le_refl _) _⟩
  · rw [zw_true, zw_true]
    go_enter Tryz.func25, Tryz.ntmps25
    go_wp2_with fail
    go_quiet (fail)
    go_wp2_with fail
    go_ret
    exact ⟨ret_cplx rfl rfl, Go.below_drewN ((Below.refl _ _).alloc (Nat.le_refl _) _) _⟩
set_option maxHeartbeats 400000 in
theorem refZ_any (x y : Int) (w : World) :
    Calls Tryz.prog 50 #[.agg #[.int .i64 x, .int .i64 y]] w fun e w' => e = .returned (.complex .f64 (W x) (W y)) ∧ Below w.heap.size w w' := by
  go_enter Tryz.func50, Tryz.ntmps50
  go_wp2_with fail
  go_ret
  exact ⟨rfl, (Below.refl _ _).alloc (Nat.le_refl _) _⟩

/-- an answer of the reference -/
theorem ret_num {x y e x' y' e' : Int} (h1 : x = x') (h2 : y = y') (h3 : e = e') : Ending.returned (.tuple #[.agg #[.int .i64 x, .int .i64 y], .int .i64 e]) = .returned (.tuple #[.agg #[.int .i64 x', .int .i64 y'], .int .i64 e']) := by rw [h1, h2, h3]
set_option maxHeartbeats 400000 in
theorem in_any (x y : Int) (w : World) :
    Calls Tryz.prog 83 #[.agg #[.int .i64 x, .int .i64 y]] w fun e w' => e = .returned (.tuple #[.agg #[.int .i64 (bnd x y).1.1, .int .i64 (bnd x y).1.2], .int .i64 (bnd x y).2]) ∧ Below w.heap.size w w' := by
  cases h : okR x y
  · rw [bnd_neg h]
    have hr : ¬ ((-16777216 ≤ x ∧ x ≤ 16777216) ∧ (-16777216 ≤ y ∧ y ≤ 16777216)) := fun h' => by have := okR_iff.2 h'; rw [h] at this; cases this
    have hc : x < -16777216 ∨ 16777216 < x ∨ y < -16777216 ∨ 16777216 < y := by
      by_cases h1 : -16777216 ≤ x <;> by_cases h2 : x ≤ 16777216 <;> by_cases h3 : -16777216 ≤ y <;> by_cases h4 : y ≤ 16777216 <;> first | omega | exact (hr ⟨⟨h1, h2⟩, h3, h4⟩).elim
    clear hr h
    by_cases h1 : x < -16777216
    · go_enter Tryz.func83, Tryz.ntmps83
      go_wp2_with fail
      exact bodyPost_ret (v := .tuple #[.agg #[.int .i64 0, .int .i64 0], .int .i64 50]) (by simp [results, Tryz.results83, go_sem]) rfl ⟨rfl, ((Below.refl _ _).alloc (Nat.le_refl _) _).alloc (by simp) _⟩
    by_cases h2 : 16777216 < x
    · go_enter Tryz.func83, Tryz.ntmps83
      go_wp2_with fail
      exact bodyPost_ret (v := .tuple #[.agg #[.int .i64 0, .int .i64 0], .int .i64 50]) (by simp [results, Tryz.results83, go_sem]) rfl ⟨rfl, ((Below.refl _ _).alloc (Nat.le_refl _) _).alloc (by simp) _⟩
    by_cases h3 : y < -16777216
    · go_enter Tryz.func83, Tryz.ntmps83
      go_wp2_with fail
      exact bodyPost_ret (v := .tuple #[.agg #[.int .i64 0, .int .i64 0], .int .i64 50]) (by simp [results, Tryz.results83, go_sem]) rfl ⟨rfl, ((Below.refl _ _).alloc (Nat.le_refl _) _).alloc (by simp) _⟩
    · have h4 : 16777216 < y := by omega
      clear hc
      go_enter Tryz.func83, Tryz.ntmps83
      go_wp2_with fail
      exact bodyPost_ret (v := .tuple #[.agg #[.int .i64 0, .int .i64 0], .int .i64 50]) (by simp [results, Tryz.results83, go_sem]) rfl ⟨rfl, ((Below.refl _ _).alloc (Nat.le_refl _) _).alloc (by simp) _⟩
  · rw [bnd_pos h]
    obtain ⟨⟨h1, h2⟩, h3, h4⟩ := okR_iff.1 h
    clear h
    go_enter Tryz.func83, Tryz.ntmps83
    go_wp2_with fail
    exact bodyPost_ret (v := .tuple #[.agg #[.int .i64 x, .int .i64 y], .int .i64 0]) (by simp [results, Tryz.results83, go_sem]) rfl ⟨rfl, ((Below.refl _ _).alloc (Nat.le_refl _) _).alloc (by simp) _⟩

theorem bcell {W w1 : World} (hb : Below W.heap.size W w1) : (∀ b o, b < W.heap.size → w1.cell? ⟨b, o, none⟩ = W.cell? ⟨b, o, none⟩) ∧ (∀ b o, b < W.heap.size → w1.frozen? ⟨b, o, none⟩ = W.frozen? ⟨b, o, none⟩) :=
  ⟨fun b o h => hb.cell (p := ⟨b, o, none⟩) h, fun b o h => hb.frozen (p := ⟨b, o, none⟩) h⟩
theorem mul_i64 (a b : Int) (h1 : -16777216 ≤ a) (h2 : a ≤ 16777216) (h3 : -16777216 ≤ b) (h4 : b ≤ 16777216) : -281474976710656 ≤ a * b ∧ a * b ≤ 281474976710656 := by
  have := mul_bd (a := a) (b := b) (B := 16777216) (by omega) (by omega); omega
end Go.Proofs.YtbhkclkahblfnaaGreatDoor
