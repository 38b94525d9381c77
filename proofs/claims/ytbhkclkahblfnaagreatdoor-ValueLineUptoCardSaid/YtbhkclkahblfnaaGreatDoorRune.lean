/- strings.IndexRune at the two signs, for every rune; strings.LastIndexAny of every text and the two signs. -/
import Derived.Test.YtbhkclkahblfnaaGreatDoorPart
import Derived.Laws.RangeString
import Derived.Laws.Runes
import Derived.WalkMore
import Derived.Lib.TrimU
namespace Go.Proofs.YtbhkclkahblfnaaGreatDoor
open Go.RowKit Flo
set_option maxHeartbeats 4000000 in
set_option maxRecDepth 1000000 in
theorem rune_err (w : World) :
    Calls Tryz.prog 108 #[.string pm, .int .i32 65533] w fun e w' => e = .returned (.int .i64 (-1)) ∧ Below w.heap.size w w' := by
  have n0 := fun ty => run_next_ascii (P := Tryz.prog) w pm 0 ty (by decide) (by decide)
  have n1 := fun ty => run_next_ascii (P := Tryz.prog) w pm 1 ty (by decide) (by decide)
  have n2 := fun ty => run_next_end (P := Tryz.prog) w pm 2 ty (by decide)
  go_enter Tryz.func108, Tryz.ntmps108
  go_wp2_with fail
  go_loopg [5, 6] 2 (fun g _ _ wx => ∃ i : Nat, i + g = 2 ∧ wx = w.iter pm i)
  case atStart => exact ⟨0, by omega, rfl⟩
  case round =>
    obtain ⟨i, hig, rfl⟩ := hrel
    have hc : (gk = 0 ∧ i = 2) ∨ (gk = 1 ∧ i = 1) ∨ (gk = 2 ∧ i = 0) := by omega
    clear hig
    rcases hc with ⟨rfl, rfl⟩ | ⟨rfl, rfl⟩ | ⟨rfl, rfl⟩
    · go_wp2
      go_ret
      exact ⟨rfl, (Below.refl _ _).alloc (Nat.le_refl _) _⟩
    · go_wp2
      go_roundg 0
      case measure => omega
      case rel => exact ⟨2, by omega, rfl⟩
    · go_wp2
      go_roundg 1
      case measure => omega
      case rel => exact ⟨1, by omega, rfl⟩
set_option maxHeartbeats 4000000 in
set_option maxRecDepth 1000000 in
theorem rune_hi (r : Nat) (hr : 128 ≤ r) (w : World) :
    Calls Tryz.prog 108 #[.string pm, .int .i32 r] w fun e w' => e = .returned (.int .i64 (-1)) ∧ Below w.heap.size w w' := by
  by_cases he : r = 65533
  · subst he; exact rune_err w
  have hne : ((r : Int) == 65533) = false := beq_eq_false_iff_ne.2 (by omega)
  have hlt : ¬ ((r : Int) < 128) := by omega
  have h0 : (0 : Int) ≤ (r : Int) := by omega
  have HV := Lib.hid (fun w => Tryz.utf8_ValidRune (r : Int) w)
  have HR := Lib.hid hr
  clear hr he
  cases hv : Lib.validRune (r : Int) <;> rw [hv] at HV
  · clear hv
    go_enter Tryz.func108, Tryz.ntmps108
    go_wp2_with fail
    refine (HV.out _).mono ?_; rintro e w' ⟨rfl, rfl⟩
    go_wp2_with fail
    go_ret
    exact ⟨rfl, Below.refl _ _⟩
  · have hval : Utf8.valid (r : Int) = true := by
      have := hv; unfold Lib.validRune at this; unfold Utf8.valid; simp at this ⊢; omega
    obtain ⟨e1, e2, e3⟩ := encode_facts (r : Int) hval (by have := HR.out; omega)
    obtain ⟨E, hE⟩ : ∃ E, Utf8.encode (r : Int) = E := ⟨_, rfl⟩
    rw [hE] at e1 e2 e3
    have hconv : ∀ w : World, (convert 21 9 (.int .i32 (r : Int))).run Tryz.prog w = .ok (.string E) w := fun w => by rw [← hE]; exact run_convert_int_string w _ _ _ _ (by kernel_rfl) Tryz.underlying9
    clear hE
    clear hv hval
    have hcs : E.size = 2 ∨ E.size = 3 ∨ E.size = 4 := by omega
    clear e1 e2
    rcases hcs with hs | hs | hs
    · have hx := e3 (by omega)
      obtain ⟨x, hxe⟩ : ∃ x : UInt8, E[E.size - 1]'(by omega) = x := ⟨_, rfl⟩
      rw [hxe] at hx
      have hy : E[1]'(by omega) = x := by simpa [hs] using hxe
      clear e3 hxe
      have hq : ((45 : Int) == (x.toNat : Int)) = false := beq_eq_false_iff_ne.2 (by omega)
      go_enter Tryz.func108, Tryz.ntmps108
      go_wp2_with fail
      refine (HV.out _).mono ?_; rintro e w' ⟨rfl, rfl⟩
      go_wp2_with fail
      go_step3
      go_wp2_with fail
      go_loop [9] (fun s => s = .int .i64 1) (fun _ => 0)
      case atStart => first | rfl | simp [hs]
      case round =>
        subst hrel
        go_wp2_with fail
        have i1 : ∀ w : World, (Instr.index 9 (.string pm) (.int .i64 1)).run Tryz.prog w = .ok (.int .u8 45) w := fun w => by
          rw [run_index_string w _ _ _ _ Tryz.underlying9]; rfl
        have i2 : ∀ w : World, (Instr.index 9 (.string E) (.int .i64 1)).run Tryz.prog w = .ok (.int .u8 x.toNat) w := fun w => by
          rw [run_index_string w _ _ _ _ Tryz.underlying9, dif_pos ⟨by omega, by omega⟩]; simp [hy]
        go_step3
        go_wp2_with fail
        go_quiet (fail)
        go_wp2_with fail
        have HB := Lib.hid (Go.below_drewN (Below.refl w'.heap.size w') nq)
        generalize w'.drewN nq = W1 at HB ⊢
        have hw2 : IntKind.i64.wrap 2 = 2 := by decide
        go_quiet (first | (go_at_call 142; refine Calls.quiet_of_same (Tryz.strings_IndexByte _ _ _)))
        have HB2 := Lib.hid (Go.below_drewN HB.out nq)
        go_wp2_with fail
        rw [Exit.noGoto_ret]
        go_wp2
        rw [Exit.noGoto_ret]
        try go_wp2
        go_ret
        exact ⟨rfl, HB2.out⟩
    · clear e3
      go_enter Tryz.func108, Tryz.ntmps108
      go_wp2_with fail
      refine (HV.out _).mono ?_; rintro e w' ⟨rfl, rfl⟩
      go_wp2_with fail
      go_step3
      go_wp2_with fail
      go_loop [9] (fun s => s = .int .i64 2) (fun _ => 0)
      case atStart => first | rfl | simp [hs]
      case round =>
        subst hrel
        go_wp2_with fail
        go_ret
        exact ⟨rfl, Below.refl _ _⟩
    · clear e3
      go_enter Tryz.func108, Tryz.ntmps108
      go_wp2_with fail
      refine (HV.out _).mono ?_; rintro e w' ⟨rfl, rfl⟩
      go_wp2_with fail
      go_step3
      go_wp2_with fail
      go_loop [9] (fun s => s = .int .i64 3) (fun _ => 0)
      case atStart => first | rfl | simp [hs]
      case round =>
        subst hrel
        go_wp2_with fail
        go_ret
        exact ⟨rfl, Below.refl _ _⟩
/-- strings.IndexRune at the two signs, whatever the rune -/
theorem rune_all (r : Nat) (w : World) :
    Calls Tryz.prog 108 #[.string pm, .int .i32 r] w fun e w' => (∃ o, e = .returned (.int .i64 o) ∧ (r < 128 → o = Lib.indexByte [43, 45] r.toUInt8)) ∧ Below w.heap.size w w' := by
  by_cases h : r < 128
  · refine (rune_pm r h w).mono ?_
    rintro e w' ⟨rfl, rfl⟩
    exact ⟨⟨_, rfl, fun _ => rfl⟩, Below.refl _ _⟩
  · refine (rune_hi r (by omega) w).mono ?_
    rintro e w' ⟨rfl, hb⟩
    exact ⟨⟨_, rfl, fun h' => absurd h' h⟩, hb⟩
theorem last_width (l : List UInt8) (h : l ≠ []) : 1 ≤ (Lib.decodeLastL l).2 ∧ (Lib.decodeLastL l).2 ≤ l.length := by
  have := Lib.decodeLastL_width l (List.length_pos_iff.2 h)
  exact this
/-- where a text holds a byte above 127: some place, or none -/
def Some1 (l : List UInt8) (a : Int) : Prop := a = -1 ∨ ∃ i : Nat, a = i ∧ i < l.length
set_option maxHeartbeats 4000000 in
set_option maxRecDepth 1000000 in
theorem last_one_hi (s : ByteArray) (w : World) (h1 : s.size = 1) (x : UInt8) (hx : s[0]'(by omega) = x) (h128 : 128 ≤ x.toNat) :
    Calls Tryz.prog 77 #[.string s, .string pm] w fun e w' => e = .returned (.int .i64 (-1)) ∧ Below w.heap.size w w' := by
  have HQ := Lib.hid rune_err
  have hn1 : ((s.size : Int) == 1) = true := beq_iff_eq.2 (by omega)
  have hge : (128 : Int) ≤ (x.toNat : Int) := by omega
  have hlt : (x.toNat : Int) < 256 := by have := x.toNat_lt; omega
  clear h128
  go_enter Tryz.func77, Tryz.ntmps77
  go_wp2_with fail
  refine (HQ.out _).mono ?_; rintro e w1 ⟨rfl, hb⟩
  have HB := Lib.hid hb; clear hb
  go_wp2_with fail
  go_ret
  exact ⟨rfl, HB.out⟩
set_option maxHeartbeats 8000000 in
set_option maxRecDepth 1000000 in
theorem last_weak (s : ByteArray) (w : World) (hI : Inv w) (h8 : s.size ≤ 8) (h1 : s.size ≠ 1) :
    Calls Tryz.prog 77 #[.string s, .string pm] w fun e w' => ∃ a, e = .returned (.int .i64 a) ∧ Some1 s.data.toList a ∧ Below w.heap.size w w' := by
  have h8z : decide ((8 : Int) < (s.size : Int)) = false := decide_eq_false (by omega)
  have HQ := Lib.hid rune_all
  have hn1 : ((s.size : Int) == 1) = false := beq_eq_false_iff_ne.2 (by omega)
  have h18 := Lib.hid (And.intro h8 h1)
  have HI := Lib.hid hI
  have HL := Lib.hid (Lib.size_eq s)
  clear h8 h1 hI
  go_enter Tryz.func77, Tryz.ntmps77
  go_wp2_with fail
  refine (Tryz.strings_shouldUseASCIISet _ _).mono ?_; rintro e w' ⟨rfl, hw⟩; rw [hw, h8z]
  clear hw
  go_wp2_with fail
  go_loopg [13] s.size (fun g s13 wx => ∃ i : Nat, i ≤ g ∧ g ≤ s.size ∧ s13 = .int .i64 (i : Int) ∧ Below w.heap.size w wx)
  case atStart => exact ⟨s.size, by omega, by omega, rfl, Below.refl _ _⟩
  case round =>
    obtain ⟨i, hig, hgs, rfl, hb⟩ := hrel
    have HB := Lib.hid hb
    clear hb
    rcases Nat.eq_zero_or_pos i with rfl | hpos
    · go_wp2
      go_ret
      exact ⟨-1, rfl, Or.inl rfl, HB.out⟩
    · have hsz : (s.extract 0 i).size = i := by rw [ByteArray.size_extract]; omega
      have hln : (s.extract 0 i).data.toList.length = i := by rw [← Lib.size_eq]; exact hsz
      have hwd := last_width (s.extract 0 i).data.toList (fun h => by rw [h] at hln; simp at hln; omega)
      rw [hln] at hwd
      have HD := Lib.hid (fun w' hT => Tryz.utf8_DecodeLastRuneInString (s.extract 0 i) w' (by rw [hsz]; have := h18.out; omega) hT)
      generalize Lib.decodeLastL (s.extract 0 i).data.toList = rk at HD hwd
      obtain ⟨r, k⟩ := rk
      have hk : 1 ≤ k ∧ k ≤ i := hwd
      clear hwd hsz hln
      obtain ⟨j, rfl⟩ : ∃ j : Nat, i = k + j := ⟨i - k, by omega⟩
      have hjb : j < 8 := by have := h18.out; omega
      have hkb : k ≤ 8 := by have := h18.out; omega
      have hks : k + j ≤ s.size := by omega
      have hpos' : 0 < k + j := hpos
      have HG := Lib.hid (And.intro hig (And.intro hgs hk))
      clear hig hgs hk hpos
      go_wp2_with fail
      refine (HD.out _ (HI.out.below HB.out).utf).mono ?_; rintro e w1 ⟨rfl, hb1⟩
      have HB1 := Lib.hid (HB.out.trans (hb1.mono HB.out.size)); clear hb1
      go_wp2_with fail
      refine (HQ.out _ _).mono ?_; rintro e w2 ⟨⟨o, rfl, ho⟩, hb2⟩
      have HB2 := Lib.hid (HB1.out.trans (hb2.mono HB1.out.size)); clear hb2 ho
      by_cases hoo : 0 ≤ o
      · go_wp2_with fail
        go_ret
        exact ⟨(k : Int) + (j : Int) - (k : Int), rfl, Or.inr ⟨j, by omega, by have := HG.out; have := HL.out; omega⟩, HB2.out⟩
      · go_wp2_with fail
        have hg2 := HG.out
        go_roundg (gk - 1)
        case measure => omega
        case rel => exact ⟨j, by omega, by omega, congrArg (Value.int .i64) (by omega), HB2.out⟩
/-- strings.LastIndexAny of every text and the two signs -/
theorem last_any (s : ByteArray) (w : World) (hI : Inv w) (hs : s.size < 4611686018427387904) :
    Calls Tryz.prog 77 #[.string s, .string pm] w fun e w' => ∃ a, e = .returned (.int .i64 a) ∧ (((∀ (j : Nat) b, s.data.toList[j]? = some b → b.toNat < 128) → LastPM s.data.toList a) ∧ Some1 s.data.toList a) ∧ Below w.heap.size w w' := by
  have bnd : ∀ a, LastPM s.data.toList a → Some1 s.data.toList a := fun a h => by
    rcases h with ⟨h, _⟩ | ⟨i, b, h, hi, _, _⟩
    · exact Or.inl h
    · exact Or.inr ⟨i, h, (List.getElem?_eq_some_iff.1 hi).1⟩
  by_cases h8 : 8 < s.size
  · refine (last_long s w h8 hs).mono ?_
    rintro e w' ⟨a, rfl, ha, hb⟩
    exact ⟨a, rfl, ⟨fun _ => ha, bnd a ha⟩, hb⟩
  by_cases ha : ∀ (j : Nat) b, s.data.toList[j]? = some b → b.toNat < 128
  · refine (last_asc s w hs ha).mono ?_
    rintro e w' ⟨a, rfl, ha, hb⟩
    exact ⟨a, rfl, ⟨fun _ => ha, bnd a ha⟩, hb⟩
  by_cases h1 : s.size = 1
  · have hx : 128 ≤ (s[0]'(by omega)).toNat := by
      refine Nat.le_of_not_lt fun hlt => ha fun j b hb => ?_
      have hj : j < s.data.toList.length := (List.getElem?_eq_some_iff.1 hb).1
      rw [← Lib.size_eq, h1] at hj
      obtain rfl : j = 0 := by omega
      rw [Lib.data_getElem? s 0 (by omega)] at hb
      rw [← Option.some.inj hb]; exact hlt
    refine (last_one_hi s w h1 _ rfl hx).mono ?_
    rintro e w' ⟨rfl, hb⟩
    exact ⟨-1, rfl, ⟨fun h => absurd h ha, Or.inl rfl⟩, hb⟩
  · refine (last_weak s w hI (by omega) h1).mono ?_
    rintro e w' ⟨a, rfl, h, hb⟩
    exact ⟨a, rfl, ⟨fun h => absurd h ha, h⟩, hb⟩
end Go.Proofs.YtbhkclkahblfnaaGreatDoor
