/- The answers of the package gauss over whole numbers, in plain Lean. No program in sight. -/
import Derived.Test.YtbhkclkahblfnaaGreatDoorFloc
namespace Go.Proofs.YtbhkclkahblfnaaGreatDoor
namespace Flo
/-- the number of two words -/
def numC (a b : Nat) : Option (Int × Int) :=
  match numOf a, numOf b with
  | some x, some y => some (x, y)
  | _, _ => none
theorem numC_some {a b : Nat} {x y : Int} (h : numC a b = some (x, y)) : numOf a = some x ∧ numOf b = some y := by
  unfold numC at h
  cases ha : numOf a with
  | none => simp [ha] at h
  | some u => cases hb : numOf b with
    | none => simp [ha, hb] at h
    | some v => simp [ha, hb] at h; exact ⟨by rw [h.1], by rw [h.2]⟩
theorem numC_W {x y : Int} (hx : -16777216 ≤ x ∧ x ≤ 16777216) (hy : -16777216 ≤ y ∧ y ≤ 16777216) : numC (W x) (W y) = some (x, y) := by
  unfold numC; rw [numOf_W hx, numOf_W hy]
def okR (x y : Int) : Bool := decide (-16777216 ≤ x) && decide (x ≤ 16777216) && (decide (-16777216 ≤ y) && decide (y ≤ 16777216))
theorem okR_iff {x y : Int} : okR x y = true ↔ (-16777216 ≤ x ∧ x ≤ 16777216) ∧ (-16777216 ≤ y ∧ y ≤ 16777216) := by
  unfold okR; simp [Bool.and_eq_true, decide_eq_true_eq, and_assoc]
abbrev Ans := (Int × Int) × Int
def bnd (x y : Int) : Ans := if okR x y = true then ((x, y), 0) else ((0, 0), 50)
theorem bnd_pos {x y : Int} (h : okR x y = true) : bnd x y = ((x, y), 0) := if_pos h
theorem bnd_neg {x y : Int} (h : okR x y = false) : bnd x y = ((0, 0), 50) := if_neg (by rw [h]; decide)
theorem make_pos {x y : Int} (h : okR x y = true) : (if okR x y = true then ((x, y), 0) else ((0, 0), 2) : Ans) = ((x, y), 0) := if_pos h
theorem make_neg {x y : Int} (h : okR x y = false) : (if okR x y = true then ((x, y), 0) else ((0, 0), 2) : Ans) = ((0, 0), 2) := if_neg (by rw [h]; decide)
theorem W0 : W 0 = 0 := by decide +kernel
def shp : Ans := ((0, 0), 3)
def gAdd : Option (Int × Int) → Option (Int × Int) → Ans
  | some (a, b), some (c, d) => bnd (a + c) (b + d)
  | _, _ => shp
def gSub : Option (Int × Int) → Option (Int × Int) → Ans
  | some (a, b), some (c, d) => bnd (a - c) (b - d)
  | _, _ => shp
def gMul : Option (Int × Int) → Option (Int × Int) → Ans
  | some (a, b), some (c, d) => bnd (a * c - b * d) (a * d + b * c)
  | _, _ => shp
def quo (a b c d : Int) : Ans :=
  if c = 0 ∧ d = 0 then ((0, 0), 51)
  else if (a * c + b * d).tmod (c * c + d * d) = 0 ∧ (b * c - a * d).tmod (c * c + d * d) = 0 then bnd ((a * c + b * d).tdiv (c * c + d * d)) ((b * c - a * d).tdiv (c * c + d * d))
  else ((0, 0), 51)
def gQuo : Option (Int × Int) → Option (Int × Int) → Ans
  | some (a, b), some (c, d) => quo a b c d
  | _, _ => shp
def gConj : Option (Int × Int) → Ans
  | some (a, b) => ((a, -b), 0)
  | _ => shp
def gLess : Option (Int × Int) → Option (Int × Int) → Bool × Int
  | some (a, b), some (c, d) => (decide (a < c ∨ a = c ∧ b < d), 0)
  | _, _ => (false, 3)
def gMake (x y : Int) : Ans := if okR x y = true then ((x, y), 0) else ((0, 0), 2)
/-- the words of an answer -/
def wd (r : Ans) : Value := .tuple #[.complex .f64 (W r.1.1) (W r.1.2), .int .i64 r.2]
theorem plain_cases (b : Nat) (hb : b < 18446744073709551616) :
    (numOf b).isSome = (geB b && leB b && wholeB b && (!zeroB b || !decide (9223372036854775808 ≤ b))) := plain_eq b hb
end Flo
end Go.Proofs.YtbhkclkahblfnaaGreatDoor
