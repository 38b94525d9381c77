/- The text of a number and what reads as one, on lists of bytes. No program in sight. -/
import Derived.Test.YtbhkclkahblfnaaGreatDoorGm
import Derived.Lib.ItoaLen
import Derived.Lib.AtoiAllCases
namespace Go.Proofs.YtbhkclkahblfnaaGreatDoor
namespace Flo
/-- the text of a number -/
def textL (x y : Int) : List UInt8 :=
  if y = 0 then Lib.itoa x
  else if x = 0 then Lib.itoa y ++ [105]
  else if 0 < y then Lib.itoa x ++ [43] ++ Lib.itoa y ++ [105]
  else Lib.itoa x ++ Lib.itoa y ++ [105]
theorem ba_app (l m : List UInt8) : (⟨l.toArray⟩ : ByteArray) ++ ⟨m.toArray⟩ = ⟨(l ++ m).toArray⟩ := by
  apply ByteArray.ext; simp [ByteArray.data_append]
theorem itoa_len {n : Int} (h : -16777216 ≤ n ∧ n ≤ 16777216) : (Lib.itoa n).length ≤ 21 := Lib.itoa_length_le n (by omega) (by omega)
end Flo
end Go.Proofs.YtbhkclkahblfnaaGreatDoor
