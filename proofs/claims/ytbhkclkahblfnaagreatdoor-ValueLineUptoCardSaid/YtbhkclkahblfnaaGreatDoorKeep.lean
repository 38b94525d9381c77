/- Cells that stand while calls lay new memory: what a law's walk carries from world to world. -/
import Derived.Test.YtbhkclkahblfnaaGreatDoorRefc
import Derived.Deep.RegionHeld3
namespace Go.Proofs.YtbhkclkahblfnaaGreatDoor
open Go.RowKit
/-- the listed cells hold the listed values -/
def Cells (X : World) : List (Nat × Nat × Value) → Prop
  | [] => True
  | (b, o, v) :: l => X.cell? ⟨b, o, none⟩ = some v ∧ b < X.heap.size ∧ Cells X l
/-- .. and nothing that lay before W has changed -/
def Keep (W : World) (l : List (Nat × Nat × Value)) (X : World) : Prop := Cells X l ∧ Below W.heap.size W X
theorem cells_below {X Y : World} (hb : Below X.heap.size X Y) : ∀ {l : List (Nat × Nat × Value)}, Cells X l → Cells Y l
  | [], _ => trivial
  | (b, o, _) :: _, ⟨h1, h2, h3⟩ => ⟨(hb.cell (p := ⟨b, o, none⟩) h2).trans h1, Nat.lt_of_lt_of_le h2 hb.size, cells_below hb h3⟩
theorem Keep.below {W X Y : World} {l : List (Nat × Nat × Value)} (hb : Below X.heap.size X Y) (h : Keep W l X) : Keep W l Y :=
  ⟨cells_below hb h.1, h.2.trans (hb.mono h.2.size)⟩
theorem Keep.start (W : World) : Keep W [] W := ⟨trivial, Below.refl _ _⟩
theorem below_alloc (X : World) (o : Obj) : Below X.heap.size X (X.alloc o) := (Below.refl _ _).alloc (Nat.le_refl _) o
theorem below_drew (X : World) : Below X.heap.size X X.drew := (Below.refl _ _).drew
theorem Keep.alloc {W X : World} {l : List (Nat × Nat × Value)} (o : Obj) (h : Keep W l X) : Keep W l (X.alloc o) := h.below (below_alloc X o)
theorem Keep.drew {W X : World} {l : List (Nat × Nat × Value)} (h : Keep W l X) : Keep W l X.drew := h.below (below_drew X)
theorem Keep.drewN {W X : World} {l : List (Nat × Nat × Value)} (n : Nat) (h : Keep W l X) : Keep W l (X.drewN n) := h.below (Go.below_drewN (Below.refl _ _) n)
theorem Keep.alloc1 {W X : World} {l : List (Nat × Nat × Value)} {k : Nat} (a : Value) (T : TypeId) (hk : X.heap.size = k) (h : Keep W l X) : Keep W ((k, 0, a) :: l) (X.alloc (.cells #[a] T)) := by
  subst hk
  exact ⟨⟨by simp [go_sem], by simp, (h.alloc _).1⟩, (h.alloc _).2⟩
theorem Keep.alloc2 {W X : World} {l : List (Nat × Nat × Value)} {k : Nat} (a b : Value) (T : TypeId) (hk : X.heap.size = k) (h : Keep W l X) : Keep W ((k, 0, a) :: (k, 1, b) :: l) (X.alloc (.cells #[a, b] T)) := by
  subst hk
  exact ⟨⟨by simp [go_sem], by simp, by simp [go_sem], by simp, (h.alloc _).1⟩, (h.alloc _).2⟩
theorem Keep.alloc3 {W X : World} {l : List (Nat × Nat × Value)} {k : Nat} (a b c : Value) (T : TypeId) (hk : X.heap.size = k) (h : Keep W l X) : Keep W ((k, 0, a) :: (k, 1, b) :: (k, 2, c) :: l) (X.alloc (.cells #[a, b, c] T)) := by
  subst hk
  exact ⟨⟨by simp [go_sem], by simp, by simp [go_sem], by simp, by simp [go_sem], by simp, (h.alloc _).1⟩, (h.alloc _).2⟩
end Go.Proofs.YtbhkclkahblfnaaGreatDoor
