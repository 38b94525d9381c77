/- What Text of the package gauss answers. -/
import Derived.Test.YtbhkclkahblfnaaGreatDoorLMakes
import Derived.Test.YtbhkclkahblfnaaGreatDoorTx
import Derived.Test.YtbhkclkahblfnaaGreatDoorShelf
import Derived.Lib.SmallJoins
import Derived.Outline
namespace Go.Proofs.YtbhkclkahblfnaaGreatDoor
open Go.RowKit Flo
theorem gPow : Tryz.prog.globalNamed "internal/strconv.uint64pow10" = some 5 := by kernel_rfl
abbrev Pow (w : World) : Prop := Lib.TabIs Tryz.prog w "internal/strconv.uint64pow10" .u64 Lib.pow10Tab
theorem below_grow (w : World) (k : Nat) (os : Array Obj) : Below w.heap.size w (Sort.grow (w.drewN k) os) := by
  refine ⟨rfl, rfl, rfl, ?_, fun i hi => ?_⟩
  · show w.heap.size ≤ (w.heap ++ os).size
    rw [Array.size_append]; omega
  · show (w.heap ++ os)[i]? = w.heap[i]?
    rw [Array.getElem?_append_left hi]
/-- strconv.Itoa, the world told by 'Below' -/
theorem itoa_any (n : Int) (h : -16777216 ≤ n ∧ n ≤ 16777216) (w : World) (hT : Pow w) :
    Calls Tryz.prog 66 #[.int .i64 n] w fun e w' => e = .returned (.string ⟨(Lib.itoa n).toArray⟩) ∧ Below w.heap.size w w' := by
  refine (Tryz.strconv_Itoa n (by omega) (by omega) w hT).mono ?_
  rintro e w' ⟨rfl, k, os, rfl⟩
  exact ⟨rfl, below_grow w k os⟩
set_option maxHeartbeats 400000 in
theorem text_none {a b : Nat} (ha : a < 18446744073709551616) (hb : b < 18446744073709551616) (h : numC a b = none) (w : World) :
    Calls Tryz.prog 38 #[.complex .f64 a b] w fun e w' => e = .returned (.tuple #[.string ⟨#[]⟩, .int .i64 3]) ∧ w = w' := by
  have Q := Lib.hid (fun w => parts_none ha hb h w); clear ha hb h
  go_enter Tryz.func38, Tryz.ntmps38
  go_wp2_with fail
  refine (Q.out _).mono ?_; rintro e w' ⟨rfl, rfl⟩
  go_wp2_with fail
  go_ret2
  exact ⟨rfl, rfl⟩
set_option maxHeartbeats 400000 in
theorem text_some {a b : Nat} {x y : Int} (ha : a < 18446744073709551616) (hb : b < 18446744073709551616) (h : numC a b = some (x, y)) (w : World) (hT : Pow w) :
    Calls Tryz.prog 38 #[.complex .f64 a b] w fun e w' => e = .returned (.tuple #[.string ⟨(textL x y).toArray⟩, .int .i64 0]) ∧ Below w.heap.size w w' := by
  have Q := Lib.hid (fun w => parts_some ha hb h w)
  have g1 := numOf_rng (numC_some h).1; have g2 := numOf_rng (numC_some h).2
  have l1 := itoa_len g1; have l2 := itoa_len g2
  have QI := Lib.hid (fun w hT => itoa_any x g1 w hT); have QJ := Lib.hid (fun w hT => itoa_any y g2 w hT)
  have HT := Lib.hid hT
  clear ha hb h hT g1 g2
  go_enter Tryz.func38, Tryz.ntmps38
  go_wp2_with fail
  refine (Q.out _).mono ?_; rintro e w' ⟨rfl, rfl⟩
  go_wp2_with fail
  refine (QI.out _ HT.out).mono ?_; rintro e w1 ⟨rfl, hb1⟩
  have HB1 := Lib.hid hb1; clear hb1
  have HT1 : Hid (Pow w1) := Lib.hid (Joins.tab_stays gPow HT.out HB1.out (Nat.le_refl _))
  go_wp2_with fail
  refine (QJ.out _ HT1.out).mono ?_; rintro e w2 ⟨rfl, hb2⟩
  have HB2 := Lib.hid hb2; clear hb2
  go_wp2_with fail
  all_goals go_ret2
  all_goals refine ⟨ret2 (congrArg (fun s => Value.tuple #[Value.string s, Value.int .i64 0]) ?_), HB1.out.trans (HB2.out.mono HB1.out.size)⟩
  · rw [textL, if_pos (by simpa using ‹(y == 0) = true›)]
  · rw [textL, if_neg (by simpa using ‹(y == 0) = false›), if_pos (by simpa using ‹(x == 0) = true›)]; exact ba_app _ _
  · rw [textL, if_neg (by simpa using ‹(y == 0) = false›), if_neg (by simpa using ‹(x == 0) = false›), if_pos ‹_›]
    rw [show (⟨#[43]⟩ : ByteArray) = ⟨([43] : List UInt8).toArray⟩ from rfl, show (⟨#[105]⟩ : ByteArray) = ⟨([105] : List UInt8).toArray⟩ from rfl, ba_app, ba_app, ba_app]; simp
  · rw [textL, if_neg (by simpa using ‹(y == 0) = false›), if_neg (by simpa using ‹(x == 0) = false›), if_neg (by omega)]
    rw [show (⟨#[105]⟩ : ByteArray) = ⟨([105] : List UInt8).toArray⟩ from rfl, ba_app, ba_app]; simp
end Go.Proofs.YtbhkclkahblfnaaGreatDoor
