/- The statement ValueParses, as a run. -/
import Derived.Test.YtbhkclkahblfnaaGreatDoorVb
import Derived.Test.YtbhkclkahblfnaaGreatDoorInvv
set_option linter.unusedVariables false
namespace Go.Proofs.YtbhkclkahblfnaaGreatDoor
open Go.RowKit Flo Ab
theorem valueParses_any (s : ByteArray) (hs : s.size ≤ 2097152) (W : World) (hG : Gv W) : Calls Tryz.prog 4 #[.string s] W fun e W' => e = .returned (.bool true) ∧ Below W.heap.size W W' := by
  refine (lparses_ap s.data.toList (by show s.data.toList.length ≤ _; rw [Array.length_toList]; exact hs)).calls W hG _ ⟨rfl, fun j x hj => ?_⟩
  cases j with
  | zero => cases hj; exact ⟨_, rfl, .v _ rfl⟩
  | succ j => simp at hj
end Go.Proofs.YtbhkclkahblfnaaGreatDoor
