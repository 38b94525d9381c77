/- What Quo, Conj and Less of the package gauss answer. -/
import Derived.Test.YtbhkclkahblfnaaGreatDoorGau
namespace Go.Proofs.YtbhkclkahblfnaaGreatDoor
open Go.RowKit Flo
theorem ne_of_eqB {a b : Nat} {c : Bool} (h : (FloatKind.f64.format.order a b == some Ordering.eq) = c) : (FloatKind.f64.format.order a b != some Ordering.eq) = !c := by
  show (!(FloatKind.f64.format.order a b == some Ordering.eq)) = _; rw [h]
theorem ord_W_eq {a b : Int} (ha : -16777216 ≤ a ∧ a ≤ 16777216) (hb : -16777216 ≤ b ∧ b ≤ 16777216) : (FloatKind.f64.format.order (W a) (W b) == some Ordering.eq) = decide (a = b) := by
  rw [show FloatKind.f64.format.order (W a) (W b) = _ from ord_W (by omega) (by omega), cmp_eq]
theorem ord_W_lt {a b : Int} (ha : -16777216 ≤ a ∧ a ≤ 16777216) (hb : -16777216 ≤ b ∧ b ≤ 16777216) : (FloatKind.f64.format.order (W a) (W b) == some Ordering.lt) = decide (a < b) := by
  rw [show FloatKind.f64.format.order (W a) (W b) = _ from ord_W (by omega) (by omega), cmp_lt]
theorem ord_0_eq {a : Int} (ha : -16777216 ≤ a ∧ a ≤ 16777216) : (FloatKind.f64.format.order (W a) 0 == some Ordering.eq) = decide (a = 0) := by
  have := ord_W_eq (a := a) (b := 0) ha (by decide); rwa [W0] at this
theorem ord_0_w {x : Nat} {a : Int} (ha : a.natAbs ≤ 4503599627370496) (hx : IsW x a) : (FloatKind.f64.format.order x 0 == some Ordering.eq) = decide (a = 0) := by
  have := order_w (b := 0) (by omega) (by decide) hx (W_isW 0)
  rw [W0] at this; rw [this, cmp_eq]
theorem sq_pos {u v : Int} (h : ¬ (u = 0 ∧ v = 0)) : 0 < u * u + v * v := by
  have h1 : 0 ≤ u * u := by
    rcases Int.le_total 0 u with h | h
    · exact Int.mul_nonneg h h
    · exact Int.mul_nonneg_of_nonpos_of_nonpos h h
  have h2 : 0 ≤ v * v := by
    rcases Int.le_total 0 v with h | h
    · exact Int.mul_nonneg h h
    · exact Int.mul_nonneg_of_nonpos_of_nonpos h h
  rcases Int.lt_trichotomy (u * u + v * v) 0 with h3 | h3 | h3
  · omega
  · have e1 : u * u = 0 := by omega
    have e2 : v * v = 0 := by omega
    exact absurd ⟨by rcases Int.mul_eq_zero.1 e1 with h | h <;> exact h, by rcases Int.mul_eq_zero.1 e2 with h | h <;> exact h⟩ h
  · exact h3
theorem tmod_zero {X n : Int} (h : X.tmod n = 0) : n * X.tdiv n = X := by
  have := Int.mul_tdiv_add_tmod X n; omega
theorem tdiv_bd {X n : Int} (h : X.natAbs ≤ 4503599627370496) : (X.tdiv n).natAbs ≤ 4503599627370496 := by
  have : (X.tdiv n).natAbs ≤ X.natAbs := by rw [Int.natAbs_tdiv]; exact Nat.div_le_self _ _
  omega
end Go.Proofs.YtbhkclkahblfnaaGreatDoor

