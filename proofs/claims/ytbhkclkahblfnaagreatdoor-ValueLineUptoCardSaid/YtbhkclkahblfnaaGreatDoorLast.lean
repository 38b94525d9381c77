/- Where the last sign of a text stands: strings.LastIndexAny of a text and the two signs. -/
import Derived.Test.YtbhkclkahblfnaaGreatDoorText
import Derived.Test.YtbhkclkahblfnaaGreatDoorTxp
import Derived.Shelf.Strings.AsciiSet
import Derived.Lib.IndexAny
namespace Go.Proofs.YtbhkclkahblfnaaGreatDoor
open Go.RowKit Flo
namespace Flo
theorem pm_contains (x : UInt8) : ([43, 45] : List UInt8).contains x = (x == 43 || x == 45) := by
  simp [List.contains, List.elem]
  cases x == 43 <;> cases x == 45 <;> rfl
theorem pm_not {x : UInt8} (h : ([43, 45] : List UInt8).contains x = false) : x ≠ 43 ∧ x ≠ 45 := by
  rw [pm_contains] at h; simpa using h
theorem pm_yes {x : UInt8} (h : ([43, 45] : List UInt8).contains x = true) : x = 43 ∨ x = 45 := by
  rw [pm_contains] at h; simpa using h
end Flo
abbrev pm : ByteArray := ⟨#[43, 45]⟩
theorem asc_info : (Tryz.prog.info? 158).map (fun i => (i.zero, i.size)) = some (some (.agg (Array.replicate 256 (.bool false))), 256) := by kernel_rfl
theorem pm_asc : ∀ (j : Nat) b, pm.data.toList[j]? = some b → b.toNat < 128 := by
  intro j b h
  have : b ∈ ([43, 45] : List UInt8) := List.mem_of_getElem? h
  rcases List.mem_cons.1 this with rfl | h2
  · decide
  · rcases List.mem_cons.1 h2 with rfl | h3
    · decide
    · cases h3
set_option maxHeartbeats 8000000 in
set_option maxRecDepth 1000000 in
theorem last_long (s : ByteArray) (w : World) (h8 : 8 < s.size) (hs : s.size < 4611686018427387904) :
    Calls Tryz.prog 77 #[.string s, .string pm] w fun e w' => ∃ at', e = .returned (.int .i64 at') ∧ LastPM s.data.toList at' ∧ Below w.heap.size w w' := by
  have hv := (zero_of_info asc_info).1
  have hM := Tryz.strings_makeASCIISet hv pm w (by decide) pm_asc
  have h8z : decide ((8 : Int) < (s.size : Int)) = true := decide_eq_true (by omega)
  have hsc : (storeCells ⟨w.heap.size + 1, 0, none⟩ (Lib.setCells pm.data.toList).toList 0).run Tryz.prog ((w.alloc (.cells (Lib.setCells pm.data.toList) 158)).alloc (.cells (Array.replicate 256 (.bool false)) 158)) = .ok () ((w.alloc (.cells (Lib.setCells pm.data.toList) 158)).alloc (.cells (Lib.setCells pm.data.toList) 158)) := by
    have := run_storeCells_new (P := Tryz.prog) (w.alloc (.cells (Lib.setCells pm.data.toList) 158)) 158 (Array.replicate 256 (.bool false)) (Lib.setCells pm.data.toList) (by rw [Lib.setCells_size]; exact (zero_of_info asc_info).2) (by rw [Lib.setCells_size, Array.size_replicate]) (Lib.setCells_one _)
    simpa using this
  have hcellAt : ∀ x : UInt8, ((w.alloc (.cells (Lib.setCells pm.data.toList) 158)).alloc (.cells (Lib.setCells pm.data.toList) 158)).cell? ⟨w.heap.size + 1, x.toNat, none⟩ = some (.bool (pm.data.toList.contains x)) := fun x => by
    rw [World.cell?_alloc_at _ _ _ _ (by simp), Lib.setCells_at]
  have HC := Lib.hid hcellAt
  clear hcellAt
  have hB : Below w.heap.size w ((w.alloc (.cells (Lib.setCells pm.data.toList) 158)).alloc (.cells (Lib.setCells pm.data.toList) 158)) :=
    ((Below.refl _ _).alloc (Nat.le_refl _) _).alloc (by simp) _
  have HB := Lib.hid hB
  clear hB
  have hsz := Lib.setCells_size pm.data.toList
  go_enter Tryz.func77, Tryz.ntmps77
  go_wp2_with fail
  refine (Tryz.strings_shouldUseASCIISet _ _).mono ?_; rintro e w' ⟨rfl, hw⟩; rw [hw, h8z]
  go_wp2_with fail
  refine hM.mono ?_; rintro e w' ⟨rfl, hw⟩; rw [hw]
  go_wp2_with fail
  clear hM hsc
  go_loopg [8] (s.size + 1) (fun g s8 wx => g ≤ s.size + 1 ∧ s8 = .int .i64 ((g : Int) - 1 - 1) ∧ wx = ((w.alloc (.cells (Lib.setCells [43, 45]) 158)).alloc (.cells (Lib.setCells [43, 45]) 158)) ∧ NoPM s.data.toList (g - 1))
  case atStart => exact ⟨by omega, by first | rfl | simp, rfl, by rw [Nat.add_sub_cancel, Lib.size_eq]; exact NoPM.top _⟩
  case round =>
    obtain ⟨hig, rfl, rfl, hno⟩ := hrel
    have HN := Lib.hid hno
    clear hno
    by_cases hg1 : gk ≤ 1
    · have hN0 := Lib.hid (show NoPM s.data.toList 0 by have := HN.out; rwa [show gk - 1 = 0 by omega] at this)
      have hneg : decide ((gk : Int) - 1 - 1 ≥ 0) = false := decide_eq_false (by omega)
      have hneg' : ¬ ((0 : Int) ≤ (gk : Int) - 1 - 1) := by omega
      go_wp2
      go_ret
      exact ⟨-1, rfl, Or.inl ⟨rfl, hN0.out⟩, HB.out⟩
    · obtain ⟨i, rfl⟩ : ∃ i, gk = i + 2 := ⟨gk - 2, by omega⟩
      rw [show i + 2 - 1 = i + 1 by omega] at HN
      have hi : i < s.size := by omega
      have ei : ((i + 2 : Nat) : Int) - 1 - 1 = (i : Int) := by omega
      rw [ei]
      clear ei
      obtain ⟨x, hx⟩ : ∃ x : UInt8, s[i]'hi = x := ⟨_, rfl⟩
      have hxl : s.data.toList[i]? = some x := by rw [← hx]; exact Lib.data_getElem? s i hi
      have Hx := Lib.hid hxl
      clear hxl
      have hcx := HC.out x
      cases hin : ([43, 45] : List UInt8).contains x <;> rw [hin] at hcx
      · go_wp2_with fail
        refine (Tryz.asciiSet_contains _ x _ _ hcx).mono ?_; rintro e w' ⟨rfl, hw⟩; rw [hw]
        go_wp2_with fail
        go_roundg (i + 1)
        case measure => omega
        case rel => exact ⟨by omega, by first | rfl | simp, rfl, HN.out.step Hx.out (pm_not hin).1 (pm_not hin).2⟩
      · go_wp2_with fail
        refine (Tryz.asciiSet_contains _ x _ _ hcx).mono ?_; rintro e w' ⟨rfl, hw⟩; rw [hw]
        go_wp2_with fail
        go_ret
        exact ⟨i, rfl, Or.inr ⟨i, x, rfl, Hx.out, pm_yes hin, HN.out⟩, HB.out⟩
/-- strings.IndexRune of a rune below 128, at the two signs -/
theorem rune_pm (r : Nat) (hr : r < 128) (w : World) :
    Calls Tryz.prog 108 #[.string pm, .int .i32 r] w fun e w' => e = .returned (.int .i64 (Lib.indexByte [43, 45] r.toUInt8)) ∧ w = w' := by
  refine (Tryz.strings_IndexRune_ascii pm r w (by omega) (by omega)).mono ?_
  rintro e w' ⟨rfl, rfl⟩
  exact ⟨rfl, rfl⟩
theorem idx_pm (x : UInt8) : decide (0 ≤ Lib.indexByte [43, 45] x) = (x == 43 || x == 45) := by
  rw [← Lib.contains_iff_indexByte, pm_contains]
set_option maxHeartbeats 4000000 in
set_option maxRecDepth 1000000 in
theorem last_one (s : ByteArray) (w : World) (h1 : s.size = 1) (ha : ∀ (j : Nat) b, s.data.toList[j]? = some b → b.toNat < 128) :
    Calls Tryz.prog 77 #[.string s, .string pm] w fun e w' => ∃ at', e = .returned (.int .i64 at') ∧ LastPM s.data.toList at' ∧ Below w.heap.size w w' := by
  obtain ⟨x, hx⟩ : ∃ x : UInt8, s[0]'(by omega) = x := ⟨_, rfl⟩
  have hxl : s.data.toList[0]? = some x := by rw [← hx]; exact Lib.data_getElem? s 0 (by omega)
  have hx128 := ha 0 x hxl
  have HQ := Lib.hid (fun w => rune_pm x.toNat hx128 w)
  have HI := Lib.hid (idx_pm x)
  have hn1 : ((s.size : Int) == 1) = true := beq_iff_eq.2 (by omega)
  have hge : ¬ ((128 : Int) ≤ (x.toNat : Int)) := by omega
  have htop : NoPM s.data.toList 1 := by have := NoPM.top s.data.toList; rwa [← Lib.size_eq, h1] at this
  have HT := Lib.hid htop
  have Hx := Lib.hid hxl
  clear ha htop hxl
  go_enter Tryz.func77, Tryz.ntmps77
  go_wp2_with fail
  refine (HQ.out _).mono ?_; rintro e w' ⟨rfl, rfl⟩
  go_wp2_with fail
  all_goals go_ret
  · have h : (x == 43 || x == 45) = true := by rw [← HI.out]; exact decide_eq_true (by omega)
    exact ⟨0, rfl, Or.inr ⟨0, x, rfl, Hx.out, by simpa using h, HT.out⟩, Below.refl _ _⟩
  · have h : (x == 43 || x == 45) = false := by rw [← HI.out]; exact decide_eq_false (by omega)
    have h' : x ≠ 43 ∧ x ≠ 45 := by simpa using h
    exact ⟨-1, rfl, Or.inl ⟨rfl, HT.out.step Hx.out h'.1 h'.2⟩, Below.refl _ _⟩
set_option maxRecDepth 1000000 in
/-- utf8.DecodeLastRuneInString where the last byte is below 128 -/
theorem decode_last (s : ByteArray) (n : Nat) (x : UInt8) (hn : s.size = n + 1) (hs : s.size ≤ 8) (hx : s.data.toList[n]? = some x) (ha : x.toNat < 128) (w : World) :
    Calls Tryz.prog 111 #[.string s] w fun e w' => e = .returned (.tuple #[.int .i32 x.toNat, .int .i64 1]) ∧ w = w' := by
  have hy1 : s[n]'(by omega) = x := by
    have := Lib.data_getElem? s n (by omega)
    rw [hx] at this; exact (Option.some.inj this).symm
  have haz : (x.toNat : Int) < 128 := by omega
  rw [hn] at hs
  clear hx
  go_enter Tryz.func111, Tryz.ntmps111
  go_wp2
  go_ret2
  exact ⟨rfl, rfl⟩
set_option maxHeartbeats 8000000 in
set_option maxRecDepth 1000000 in
theorem last_short (s : ByteArray) (w : World) (h8 : s.size ≤ 8) (h1 : s.size ≠ 1) (ha : ∀ (j : Nat) b, s.data.toList[j]? = some b → b.toNat < 128) :
    Calls Tryz.prog 77 #[.string s, .string pm] w fun e w' => ∃ at', e = .returned (.int .i64 at') ∧ LastPM s.data.toList at' ∧ Below w.heap.size w w' := by
  have h8z : decide ((8 : Int) < (s.size : Int)) = false := decide_eq_false (by omega)
  have HA := Lib.hid ha; clear ha
  have HQ := Lib.hid rune_pm
  have HD := Lib.hid decode_last
  have HI := Lib.hid idx_pm
  have hn1 : ((s.size : Int) == 1) = false := beq_eq_false_iff_ne.2 (by omega)
  have h18 := Lib.hid (And.intro h8 h1)
  clear h8 h1
  go_enter Tryz.func77, Tryz.ntmps77
  go_wp2_with fail
  refine (Tryz.strings_shouldUseASCIISet _ _).mono ?_; rintro e w' ⟨rfl, hw⟩; rw [hw, h8z]
  clear hw
  go_wp2_with fail
  go_loopg [13] s.size (fun g s13 wx => g ≤ s.size ∧ s13 = .int .i64 (g : Int) ∧ wx = w ∧ NoPM s.data.toList g)
  case atStart => exact ⟨by omega, rfl, rfl, by rw [Lib.size_eq]; exact NoPM.top _⟩
  case round =>
    obtain ⟨hig, rfl, rfl, hno⟩ := hrel
    have HN := Lib.hid hno
    clear hno
    cases gk with
    | zero =>
      go_wp2
      go_ret
      exact ⟨-1, rfl, Or.inl ⟨rfl, HN.out⟩, Below.refl _ _⟩
    | succ i =>
      have hi : i < s.size := by omega
      have hi8 : i < 8 := by have := h18.out; omega
      obtain ⟨x, hx⟩ : ∃ x : UInt8, s[i]'hi = x := ⟨_, rfl⟩
      have hxl : s.data.toList[i]? = some x := by rw [← hx]; exact Lib.data_getElem? s i hi
      have hx128 := HA.out i x hxl
      have Hx := Lib.hid hxl
      clear hxl
      go_wp2_with fail
      refine (HD.out (s.extract 0 (i + 1)) i x (by rw [ByteArray.size_extract]; omega) (by rw [ByteArray.size_extract]; have := h18.out; omega) (by rw [Lib.extract_eq]; simpa [List.getElem?_take] using Hx.out) hx128 _).mono ?_; rintro e w' ⟨rfl, rfl⟩
      go_wp2_with fail
      refine (HQ.out _ hx128 _).mono ?_; rintro e w' ⟨rfl, rfl⟩
      go_wp2_with fail
      · go_ret
        have h : (x == 43 || x == 45) = true := by rw [← HI.out]; exact decide_eq_true (by omega)
        exact ⟨i, rfl, Or.inr ⟨i, x, rfl, Hx.out, by simpa using h, HN.out⟩, Below.refl _ _⟩
      · have h : (x == 43 || x == 45) = false := by rw [← HI.out]; exact decide_eq_false (by omega)
        have h' : x ≠ 43 ∧ x ≠ 45 := by simpa using h
        go_roundg i
        case measure => omega
        case rel => exact ⟨by omega, by first | rfl | simp, rfl, HN.out.step Hx.out h'.1 h'.2⟩
/-- strings.LastIndexAny of a text of bytes below 128 and the two signs -/
theorem last_asc (s : ByteArray) (w : World) (hs : s.size < 4611686018427387904) (ha : ∀ (j : Nat) b, s.data.toList[j]? = some b → b.toNat < 128) :
    Calls Tryz.prog 77 #[.string s, .string pm] w fun e w' => ∃ at', e = .returned (.int .i64 at') ∧ LastPM s.data.toList at' ∧ Below w.heap.size w w' := by
  by_cases h8 : 8 < s.size
  · exact last_long s w h8 hs
  by_cases h1 : s.size = 1
  · exact last_one s w h1 ha
  · exact last_short s w (by omega) h1 ha
end Go.Proofs.YtbhkclkahblfnaaGreatDoor
