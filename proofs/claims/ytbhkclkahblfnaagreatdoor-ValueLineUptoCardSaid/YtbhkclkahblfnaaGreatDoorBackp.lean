/- The text of a number is read back as the number. -/
import Derived.Test.YtbhkclkahblfnaaGreatDoorParse
namespace Go.Proofs.YtbhkclkahblfnaaGreatDoor
open Go.RowKit Flo
namespace Flo
theorem itoa_asc (x : Int) : ∀ b ∈ Lib.itoa x, b.toNat < 128 := by
  intro b hb
  obtain ⟨j, hj⟩ := List.getElem?_of_mem hb
  rcases itoa_at x j b hj with h | ⟨_, rfl⟩
  · omega
  · decide
theorem textL_asc (x y : Int) : ∀ b ∈ textL x y, b.toNat < 128 := by
  intro b hb
  unfold textL at hb
  have h1 := itoa_asc x b; have h2 := itoa_asc y b
  split at hb
  · exact h1 hb
  · split at hb
    · simp only [List.mem_append, List.mem_singleton] at hb
      rcases hb with h | rfl
      · exact h2 h
      · decide
    · split at hb
      · simp only [List.mem_append, List.mem_singleton] at hb
        rcases hb with ((h | rfl) | h) | rfl
        · exact h1 h
        · decide
        · exact h2 h
        · decide
      · simp only [List.mem_append, List.mem_singleton] at hb
        rcases hb with (h | h) | rfl
        · exact h1 h
        · exact h2 h
        · decide
theorem textL_len {x y : Int} (h : okR x y = true) : (textL x y).length ≤ 50 := by
  have hr := okR_iff.1 h
  have h1 := itoa_len hr.1; have h2 := itoa_len hr.2
  unfold textL
  split
  · omega
  · split
    · simp only [List.length_append, List.length_singleton]; omega
    · split <;> simp only [List.length_append, List.length_singleton] <;> omega
theorem trim_mem {l p : List UInt8} {b : UInt8} (h : b ∈ Lib.trimSuffix l p) : b ∈ l := by
  unfold Lib.trimSuffix at h
  split at h
  · exact List.mem_of_mem_take h
  · exact h
theorem LastPM.bound {l : List UInt8} {a : Int} (h : LastPM l a) : a = -1 ∨ ∃ i : Nat, a = i ∧ i < l.length := by
  rcases h with ⟨h, _⟩ | ⟨i, b, h, hi, _, _⟩
  · exact Or.inl h
  · exact Or.inr ⟨i, h, (List.getElem?_eq_some_iff.1 hi).1⟩
theorem gParse_plain {x y : Int} {a : Int} (h : okR x y = true) (hn : Lib.hasSuffix (textL x y) [105] = false) : gParse (textL x y) a = some (x, y) := by
  have hy : y = 0 := by
    by_cases hy : y = 0
    · exact hy
    · rw [textL_i hy, suf_app] at hn; cases hn
  have e : textL x y = Lib.itoa x := by unfold textL; rw [if_pos hy]
  have hh : halves (textL x y) a = (textL x y, []) := by unfold halves; rw [if_neg (by rw [hn]; decide)]
  refine gParse_yes ?_ ?_ h rfl
  · rw [hh, e]; exact partL_itoa (okR_iff.1 h).1
  · rw [hh, hy]; exact partL_nil
end Flo
theorem parse_text {x y : Int} (h : okR x y = true) (w : World) (hI : Inv w) :
    Calls Tryz.prog 47 #[.string ⟨(textL x y).toArray⟩] w fun e w' => e = .returned (.tuple #[.complex .f64 (W x) (W y), .int .i64 0]) ∧ Below w.heap.size w w' := by
  have hl := textL_len h
  have hl2 : (Lib.trimSuffix (textL x y) [105]).length ≤ 50 := by
    unfold Lib.trimSuffix; split
    · rw [List.length_take]; omega
    · exact hl
  have hs : (⟨(textL x y).toArray⟩ : ByteArray).size ≤ 281474976710656 := by rw [Lib.size_eq]; show (textL x y).length ≤ _; omega
  cases hn : Lib.hasSuffix (textL x y) [105]
  · refine (parse_none ⟨(textL x y).toArray⟩ hs w hI hn).mono ?_
    rintro e w' ⟨rfl, hb⟩
    refine ⟨?_, hb⟩
    show Ending.returned (parseA (gParse (textL x y) (-1))) = _
    rw [gParse_plain h hn]; rfl
  · refine (parse_suf ⟨(textL x y).toArray⟩ hs w hI hn (LastPM (Lib.trimSuffix (textL x y) [105])) ?_).mono ?_
    · intro w _
      refine (last_asc ⟨(Lib.trimSuffix (textL x y) [105]).toArray⟩ w (by rw [Lib.size_eq]; show (Lib.trimSuffix (textL x y) [105]).length < _; omega) ?_).mono ?_
      · intro j b hb
        exact textL_asc x y b (trim_mem (List.mem_of_getElem? hb))
      · rintro e w' ⟨a, rfl, ha, hb⟩
        exact ⟨a, rfl, ⟨ha, LastPM.bound ha⟩, hb⟩
    · rintro e w' ⟨a, rfl, ha, hb⟩
      refine ⟨?_, hb⟩
      show Ending.returned (parseA (gParse (textL x y) a)) = _
      rw [gParse_text h ha]; rfl
end Go.Proofs.YtbhkclkahblfnaaGreatDoor
