/- Laws of the answers of layer 1, on whole numbers alone. No program in sight. -/
import Derived.Test.YtbhkclkahblfnaaGreatDoorGm
namespace Go.Proofs.YtbhkclkahblfnaaGreatDoor
namespace Flo
theorem bnd_zero {x y : Int} (h : (bnd x y).2 = 0) : bnd x y = ((x, y), 0) ∧ okR x y = true := by
  cases hk : okR x y
  · rw [bnd_neg hk] at h; exact absurd h (by decide)
  · exact ⟨bnd_pos hk, rfl⟩
theorem bnd_rng (x y : Int) : okR (bnd x y).1.1 (bnd x y).1.2 = true := by
  cases hk : okR x y
  · rw [bnd_neg hk]; rfl
  · rw [bnd_pos hk]; exact hk
theorem gAdd_rng (p q : Option (Int × Int)) : okR (gAdd p q).1.1 (gAdd p q).1.2 = true := by
  unfold gAdd; split
  · exact bnd_rng _ _
  · rfl
theorem gMul_rng (p q : Option (Int × Int)) : okR (gMul p q).1.1 (gMul p q).1.2 = true := by
  unfold gMul; split
  · exact bnd_rng _ _
  · rfl
theorem gAdd_zero {p q : Option (Int × Int)} (h : (gAdd p q).2 = 0) : ∃ a b c d, p = some (a, b) ∧ q = some (c, d) ∧ gAdd p q = ((a + c, b + d), 0) := by
  unfold gAdd at h ⊢
  split at h
  · exact ⟨_, _, _, _, rfl, rfl, (bnd_zero h).1⟩
  · exact absurd h (by decide)
theorem gMul_zero {p q : Option (Int × Int)} (h : (gMul p q).2 = 0) : ∃ a b c d, p = some (a, b) ∧ q = some (c, d) ∧ gMul p q = ((a * c - b * d, a * d + b * c), 0) := by
  unfold gMul at h ⊢
  split at h
  · exact ⟨_, _, _, _, rfl, rfl, (bnd_zero h).1⟩
  · exact absurd h (by decide)
theorem add_assoc_law {p q r : Option (Int × Int)} (h : (gAdd p q).2 = 0) (h2 : (gAdd q r).2 = 0) : gAdd (some (gAdd p q).1) r = gAdd p (some (gAdd q r).1) := by
  obtain ⟨a, b, c, d, rfl, rfl, e1⟩ := gAdd_zero h
  obtain ⟨_, _, e, f, hq, rfl, e2⟩ := gAdd_zero h2
  cases hq
  rw [e1, e2]
  show bnd (a + c + e) (b + d + f) = bnd (a + (c + e)) (b + (d + f))
  rw [Int.add_assoc, Int.add_assoc]
theorem mul_assoc_law {p q r : Option (Int × Int)} (h : (gMul p q).2 = 0) (h2 : (gMul q r).2 = 0) : gMul (some (gMul p q).1) r = gMul p (some (gMul q r).1) := by
  obtain ⟨a, b, c, d, rfl, rfl, e1⟩ := gMul_zero h
  obtain ⟨_, _, e, f, hq, rfl, e2⟩ := gMul_zero h2
  cases hq
  rw [e1, e2]
  show bnd ((a * c - b * d) * e - (a * d + b * c) * f) ((a * c - b * d) * f + (a * d + b * c) * e) = bnd (a * (c * e - d * f) - b * (c * f + d * e)) (a * (c * f + d * e) + b * (c * e - d * f))
  congr 1
  · simp only [Int.sub_mul, Int.add_mul, Int.mul_sub, Int.mul_add, Int.mul_assoc]; omega
  · simp only [Int.sub_mul, Int.add_mul, Int.mul_sub, Int.mul_add, Int.mul_assoc]; omega
theorem dist_law {p q r : Option (Int × Int)} (h : (gMul p q).2 = 0) (h2 : (gMul p r).2 = 0) (h3 : (gAdd (some (gMul p q).1) (some (gMul p r).1)).2 = 0) (h4 : (gAdd q r).2 = 0) :
    gMul p (some (gAdd q r).1) = gAdd (some (gMul p q).1) (some (gMul p r).1) := by
  obtain ⟨a, b, c, d, rfl, rfl, e1⟩ := gMul_zero h
  obtain ⟨_, _, e, f, hq, rfl, e2⟩ := gMul_zero h2
  cases hq
  obtain ⟨_, _, _, _, hx, hy, e4⟩ := gAdd_zero h4
  cases hx; cases hy
  rw [e1, e2, e4]
  show bnd (a * (c + e) - b * (d + f)) (a * (d + f) + b * (c + e)) = bnd (a * c - b * d + (a * e - b * f)) (a * d + b * c + (a * f + b * e))
  congr 1
  · simp only [Int.mul_add]; omega
  · simp only [Int.mul_add]; omega
theorem gAdd_comm (p q : Option (Int × Int)) : gAdd p q = gAdd q p := by
  cases p <;> cases q <;> try rfl
  rename_i x y
  show bnd _ _ = bnd _ _
  rw [Int.add_comm x.1, Int.add_comm x.2]
theorem gMul_comm (p q : Option (Int × Int)) : gMul p q = gMul q p := by
  cases p <;> cases q <;> try rfl
  rename_i x y
  show bnd _ _ = bnd _ _
  rw [Int.mul_comm x.1 y.1, Int.mul_comm x.2 y.2, Int.mul_comm x.1 y.2, Int.mul_comm x.2 y.1, Int.add_comm]
end Flo
end Go.Proofs.YtbhkclkahblfnaaGreatDoor
