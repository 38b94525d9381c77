/- What the functions of the reference of layer 1 and the helpers of its statements answer. -/
import Derived.Test.YtedgcllgifiajaaDoorGauq
import Derived.Deep.QuietTactic
import Derived.BigQuiet
import Derived.Laws.ResultCell
import Derived.Lib.SmallJoins
import Derived.ChangeAlike
namespace Go.Proofs.YtedgcllgifiajaaDoor
open Go.RowKit Flo
/-- the word of a part that is given by its bits -/
def rawW (n : Int) : Nat := (IntKind.u64.wrap n).toNat
theorem rawW_lt (n : Int) : rawW n < 18446744073709551616 := by
  have h1 := Int.emod_lt_of_pos n (show (0 : Int) < 18446744073709551616 by decide)
  have h2 := Int.emod_nonneg n (show (18446744073709551616 : Int) ≠ 0 by decide)
  unfold rawW
  rw [IntKind.wrap_u64]
  generalize n % 18446744073709551616 = t at *
  omega
theorem W_lt' (n : Int) : W n < 18446744073709551616 := by
  have := floatOfInt_wf .f64 n
  simp [Lit.wf] at this
  exact this
/-- the word of a part -/
def zw (raw : Bool) (n : Int) : Nat := if raw = true then rawW n else W n
theorem zw_true (n : Int) : zw true n = rawW n := by unfold zw; rw [if_pos rfl]
theorem zw_false (n : Int) : zw false n = W n := by unfold zw; rw [if_neg (by decide)]
theorem zw_lt (raw : Bool) (n : Int) : zw raw n < 18446744073709551616 := by
  cases raw
  · rw [zw_false]; exact W_lt' n
  · rw [zw_true]; exact rawW_lt n
theorem ret_cplx {a b c d : Nat} (h1 : a = c) (h2 : b = d) : Ending.returned (.complex .f64 a b) = .returned (.complex .f64 c d) := by rw [h1, h2]
/-- an answer of the reference -/
theorem ret_num {x y e x' y' e' : Int} (h1 : x = x') (h2 : y = y') (h3 : e = e') : Ending.returned (.tuple #[.agg #[.int .i64 x, .int .i64 y], .int .i64 e]) = .returned (.tuple #[.agg #[.int .i64 x', .int .i64 y'], .int .i64 e']) := by rw [h1, h2, h3]
theorem bcell {W w1 : World} (hb : Below W.heap.size W w1) : (∀ b o, b < W.heap.size → w1.cell? ⟨b, o, none⟩ = W.cell? ⟨b, o, none⟩) ∧ (∀ b o, b < W.heap.size → w1.frozen? ⟨b, o, none⟩ = W.frozen? ⟨b, o, none⟩) :=
  ⟨fun b o h => hb.cell (p := ⟨b, o, none⟩) h, fun b o h => hb.frozen (p := ⟨b, o, none⟩) h⟩
theorem mul_i64 (a b : Int) (h1 : -16777216 ≤ a) (h2 : a ≤ 16777216) (h3 : -16777216 ≤ b) (h4 : b ≤ 16777216) : -281474976710656 ≤ a * b ∧ a * b ≤ 281474976710656 := by
  have := mul_bd (a := a) (b := b) (B := 16777216) (by omega) (by omega); omega
end Go.Proofs.YtedgcllgifiajaaDoor
