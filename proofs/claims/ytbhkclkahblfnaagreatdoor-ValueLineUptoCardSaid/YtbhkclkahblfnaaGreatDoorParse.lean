/- What Parse of the package gauss answers. -/
import Derived.Test.YtbhkclkahblfnaaGreatDoorPart
import Derived.Test.YtbhkclkahblfnaaGreatDoorLOrder
import Derived.Lib.Strings
import Derived.Lib.SlicesS
namespace Go.Proofs.YtbhkclkahblfnaaGreatDoor
open Go.RowKit Flo
namespace Flo
theorem gParse_yes {l : List UInt8} {a n m : Int} (h1 : partL (halves l a).1 = some n) (h2 : partL (halves l a).2 = some m) (ho : okR n m = true) (ht : textL n m = l) : gParse l a = some (n, m) := by
  unfold gParse; rw [h1, h2]; exact if_pos ⟨ho, ht⟩
theorem gParse_no1 {l : List UInt8} {a : Int} (h1 : partL (halves l a).1 = none) : gParse l a = none := by
  unfold gParse; rw [h1]
theorem gParse_no2 {l : List UInt8} {a : Int} (h2 : partL (halves l a).2 = none) : gParse l a = none := by
  unfold gParse; rw [h2]; cases partL (halves l a).1 <;> rfl
theorem gParse_no3 {l : List UInt8} {a n m : Int} (h1 : partL (halves l a).1 = some n) (h2 : partL (halves l a).2 = some m) (ho : okR n m = false) : gParse l a = none := by
  unfold gParse; rw [h1, h2]; exact if_neg (fun h => by rw [ho] at h; cases h.1)
theorem gParse_no4 {l : List UInt8} {a n m : Int} (h1 : partL (halves l a).1 = some n) (h2 : partL (halves l a).2 = some m) (ht : textL n m ≠ l) : gParse l a = none := by
  unfold gParse; rw [h1, h2]; exact if_neg (fun h => ht h.2)
end Flo
abbrev ii : ByteArray := ⟨#[105]⟩
/-- what the answer of Parse is, by what was read -/
def parseA : Option (Int × Int) → Value
  | some (x, y) => .tuple #[.complex .f64 (W x) (W y), .int .i64 0]
  | none => .tuple #[.complex .f64 0 0, .int .i64 10]
theorem text_W {x y : Int} (h : okR x y = true) (w : World) (hT : Pow w) :
    Calls Tryz.prog 38 #[.complex .f64 (W x) (W y)] w fun e w' => e = .returned (.tuple #[.string ⟨(textL x y).toArray⟩, .int .i64 0]) ∧ Below w.heap.size w w' :=
  text_some (W_lt' _) (W_lt' _) (numC_R h) w hT
theorem pmake_yes {x y : Int} (h : okR x y = true) (w : World) :
    Calls Tryz.prog 80 #[.int .i64 x, .int .i64 y] w fun e w' => e = .returned (.tuple #[.complex .f64 (W x) (W y), .int .i64 0]) ∧ w = w' := by
  refine (make_any x y w).mono ?_
  rintro e w' ⟨rfl, rfl⟩
  refine ⟨?_, rfl⟩
  unfold gMake; rw [make_pos h]
theorem pmake_no {x y : Int} (h : okR x y = false) (w : World) :
    Calls Tryz.prog 80 #[.int .i64 x, .int .i64 y] w fun e w' => e = .returned (.tuple #[.complex .f64 (W 0) (W 0), .int .i64 2]) ∧ w = w' := by
  refine (make_any x y w).mono ?_
  rintro e w' ⟨rfl, rfl⟩
  refine ⟨?_, rfl⟩
  unfold gMake; rw [make_neg h]
theorem same_text {l : List UInt8} {s : ByteArray} (h : l = s.data.toList) : (⟨l.toArray⟩ : ByteArray) = s := by
  subst h; apply ByteArray.ext; simp
set_option maxHeartbeats 8000000 in
set_option maxRecDepth 100000 in
theorem parse_none (s : ByteArray) (hs : s.size ≤ 281474976710656) (w : World) (hI : Inv w) (hn : Lib.hasSuffix s.data.toList [105] = false) :
    Calls Tryz.prog 47 #[.string s] w fun e w' => e = .returned (parseA (gParse s.data.toList (-1))) ∧ Below w.heap.size w w' := by
  have HI := Lib.hid hI
  have Z1 := Lib.hid hs
  have Z2 := Lib.hid (show (⟨#[]⟩ : ByteArray).size ≤ 281474976710656 by decide)
  have HP := Lib.hid gpart_any
  have HB := Lib.hid (Below.refl w.heap.size w)
  have hQ := (Tryz.strings_HasSuffix s ii w (by omega))
  rw [show ii.data.toList = [105] from rfl, hn] at hQ
  have HQ := Lib.hid hQ
  have E1 := Lib.hid (show s.data.toList = (halves s.data.toList (-1)).1 by unfold halves; rw [if_neg (by rw [hn]; decide)])
  have E2 := Lib.hid (show (⟨#[]⟩ : ByteArray).data.toList = (halves s.data.toList (-1)).2 by unfold halves; rw [if_neg (by rw [hn]; decide)])
  clear hI hs hn hQ
  go_enter Tryz.func47, Tryz.ntmps47
  go_wp2_with fail
  refine HQ.out.mono ?_; rintro e w' ⟨rfl, rfl⟩
  go_wp2_with fail
  refine (HP.out s Z1.out _ HI.out).mono ?_; rintro e w1 ⟨h1, hb1⟩
  have HI1 := Lib.hid (HI.out.below hb1)
  have HB1 := Lib.hid (HB.out.trans (hb1.mono HB.out.size)); clear hb1
  rcases h1 with ⟨n, rfl, h1⟩ | ⟨n, rfl, h1⟩
  · have H1 := Lib.hid (E1.out ▸ h1); clear h1
    go_wp2_with fail
    refine (HP.out ⟨#[]⟩ Z2.out _ HI1.out).mono ?_; rintro e w2 ⟨h2, hb2⟩
    have HI2 := Lib.hid (HI1.out.below hb2)
    have HB2 := Lib.hid (HB1.out.trans (hb2.mono HB1.out.size)); clear hb2
    rcases h2 with ⟨m, rfl, h2⟩ | ⟨m, rfl, h2⟩
    · have H2 := Lib.hid (E2.out ▸ h2); clear h2
      go_wp2_with fail
      cases ho : okR n m
      · have HM := Lib.hid (fun w => pmake_no ho w)
        have HO := Lib.hid (gParse_no3 H1.out H2.out ho); clear ho
        refine (HM.out _).mono ?_; rintro e w' ⟨rfl, rfl⟩
        go_wp2_with fail
        go_ret2
        exact ⟨by rw [HO.out]; rfl, HB2.out⟩
      · have HM := Lib.hid (fun w => pmake_yes ho w)
        have HX := Lib.hid (fun w hT => text_W ho w hT)
        have HO := Lib.hid ho; clear ho
        refine (HM.out _).mono ?_; rintro e w' ⟨rfl, rfl⟩
        go_wp2_with fail
        refine (HX.out _ HI2.out.pow).mono ?_; rintro e w3 ⟨rfl, hb3⟩
        have HB3 := Lib.hid (HB2.out.trans (hb3.mono HB2.out.size)); clear hb3
        by_cases ht : textL n m = s.data.toList
        · have HG := Lib.hid (gParse_yes H1.out H2.out HO.out ht)
          rw [same_text ht]; clear ht
          have hq : (s.toList == s.toList) = true := (Lib.bytes_beq_iff _ _).2 rfl
          go_wp2_with fail
          go_ret2
          exact ⟨by rw [HG.out]; rfl, HB3.out⟩
        · have HG := Lib.hid (gParse_no4 H1.out H2.out ht)
          have hq : (textL n m == s.toList) = false := by rw [Lib.toList_data]; exact beq_eq_false_iff_ne.2 ht
          clear ht
          go_wp2_with fail
          go_ret2
          exact ⟨by rw [HG.out]; rfl, HB3.out⟩
    · have H2 := Lib.hid (E2.out ▸ h2); clear h2
      go_wp2_with fail
      have HO := Lib.hid (gParse_no2 H2.out)
      refine (make_any _ _ _).mono ?_; rintro e w' ⟨rfl, rfl⟩
      go_wp2_with fail
      go_ret2
      exact ⟨by rw [HO.out]; rfl, HB2.out⟩
  · have H1 := Lib.hid (E1.out ▸ h1); clear h1
    go_wp2_with fail
    refine (HP.out ⟨#[]⟩ Z2.out _ HI1.out).mono ?_; rintro e w2 ⟨h2, hb2⟩
    have HI2 := Lib.hid (HI1.out.below hb2)
    have HB2 := Lib.hid (HB1.out.trans (hb2.mono HB1.out.size)); clear hb2
    rcases h2 with ⟨m, rfl, h2⟩ | ⟨m, rfl, h2⟩
    · have H2 := Lib.hid (E2.out ▸ h2); clear h2
      go_wp2_with fail
      have HO := Lib.hid (gParse_no1 H1.out)
      refine (make_any _ _ _).mono ?_; rintro e w' ⟨rfl, rfl⟩
      go_wp2_with fail
      go_ret2
      exact ⟨by rw [HO.out]; rfl, HB2.out⟩
    · have H2 := Lib.hid (E2.out ▸ h2); clear h2
      go_wp2_with fail
      have HO := Lib.hid (gParse_no1 H1.out)
      refine (make_any _ _ _).mono ?_; rintro e w' ⟨rfl, rfl⟩
      go_wp2_with fail
      go_ret2
      exact ⟨by rw [HO.out]; rfl, HB2.out⟩
set_option maxHeartbeats 8000000 in
set_option maxRecDepth 100000 in
theorem parse_suf (s : ByteArray) (hs : s.size ≤ 281474976710656) (w : World) (hI : Inv w) (hn : Lib.hasSuffix s.data.toList [105] = true) (R : Int → Prop) (hl : ∀ w, Inv w → Calls Tryz.prog 77 #[.string ⟨(Lib.trimSuffix s.data.toList [105]).toArray⟩, .string pm] w fun e w' => ∃ a, e = .returned (.int .i64 a) ∧ (R a ∧ (a = -1 ∨ ∃ i : Nat, a = i ∧ i < (Lib.trimSuffix s.data.toList [105]).length)) ∧ Below w.heap.size w w') :
    Calls Tryz.prog 47 #[.string s] w fun e w' => ∃ a, e = .returned (parseA (gParse s.data.toList a)) ∧ R a ∧ Below w.heap.size w w' := by
  have hT := Tryz.strings_TrimSuffix s ii w (by omega)
  rw [show ii.data.toList = [105] from rfl] at hT
  obtain ⟨IM, hIM⟩ : ∃ IM : ByteArray, IM = ⟨(Lib.trimSuffix s.data.toList [105]).toArray⟩ := ⟨_, rfl⟩
  have hm : IM.data.toList = Lib.trimSuffix s.data.toList [105] := by rw [hIM]
  have hms : IM.size ≤ s.size := by
    rw [Lib.size_eq, hm, Lib.size_eq]; unfold Lib.trimSuffix; split <;> first | (rw [List.length_take]; omega) | exact Nat.le_refl _
  have hlen : (Lib.trimSuffix s.data.toList [105]).length = IM.size := by rw [Lib.size_eq, hm]
  rw [← hIM] at hT
  rw [← hIM, hlen] at hl
  have HI := Lib.hid hI
  have HP := Lib.hid gpart_any
  have HB := Lib.hid (Below.refl w.heap.size w)
  have hQ := (Tryz.strings_HasSuffix s ii w (by omega))
  rw [show ii.data.toList = [105] from rfl, hn] at hQ
  have HQ := Lib.hid hQ
  have HT := Lib.hid hT
  have HL := Lib.hid hl
  have HM := Lib.hid hm
  have HSZ := Lib.hid (And.intro hms hs)
  have HH := Lib.hid hn
  clear hI hs hn hQ hT hl hm hms hlen hIM
  go_enter Tryz.func47, Tryz.ntmps47
  go_wp2_with fail
  refine HQ.out.mono ?_; rintro e w' ⟨rfl, rfl⟩
  go_wp2_with fail
  refine HT.out.mono ?_; rintro e w' ⟨rfl, rfl⟩
  go_wp2_with fail
  refine (HL.out _ HI.out).mono ?_; rintro e w0 ⟨a, rfl, ⟨hR, ha⟩, hb⟩
  have HR := Lib.hid hR
  have HI' := Lib.hid (HI.out.below hb)
  have HB' := Lib.hid hb
  clear hb hR
  by_cases hp : 0 < a
  · obtain ⟨i, rfl, hi⟩ : ∃ i : Nat, a = i ∧ i < IM.size := by
      rcases ha with rfl | h
      · omega
      · exact h
    clear ha
    have hi48 : IM.size ≤ 281474976710656 := Nat.le_trans HSZ.out.1 HSZ.out.2
    go_wp2_with fail
    obtain ⟨Y, hY⟩ : ∃ Y : ByteArray, Y = ⟨(Lib.trimPrefix (IM.extract i IM.size).data.toList [43]).toArray⟩ := ⟨_, rfl⟩
    have HTP := Lib.hid (fun w => Tryz.strings_TrimPrefix (IM.extract i IM.size) ⟨#[43]⟩ w)
    rw [show (⟨#[43]⟩ : ByteArray).data.toList = [43] from rfl, ← hY] at HTP
    have hys : Y.size ≤ IM.size := by
      rw [Lib.size_eq, hY]
      have h1 : (IM.extract i IM.size).data.toList.length ≤ IM.size := by rw [← Lib.size_eq, ByteArray.size_extract]; omega
      unfold Lib.trimPrefix
      split
      · simp only [List.length_drop]; omega
      · exact h1
    have Z1 := Lib.hid (show (IM.extract 0 i).size ≤ 281474976710656 by rw [ByteArray.size_extract]; omega)
    have Z2 := Lib.hid (show Y.size ≤ 281474976710656 by omega)
    have E1 := Lib.hid (show (IM.extract 0 i).data.toList = (halves s.data.toList i).1 by
      unfold halves; rw [if_pos HH.out, if_pos hp, ← HM.out, Lib.extract_eq]; simp)
    have E2 := Lib.hid (show Y.data.toList = (halves s.data.toList i).2 by
      unfold halves
      have ht : ((IM.data.toList.drop i).take (IM.size - i)) = IM.data.toList.drop i := List.take_of_length_le (by rw [List.length_drop, ← Lib.size_eq]; exact Nat.le_refl _)
      rw [if_pos HH.out, if_pos hp, ← HM.out, hY, Lib.extract_eq, ht]; simp)
    clear hY hys
    go_quiet (refine Calls.quiet_of_same (HTP.out _))
    have HI := Lib.hid (HI'.out.below (Go.below_drewN (Below.refl _ _) nq))
    have HB := Lib.hid (Go.below_drewN HB'.out nq)
    go_wp2_with fail
    refine (HP.out (IM.extract 0 i) Z1.out _ HI.out).mono ?_; rintro e w1 ⟨h1, hb1⟩
    have HI1 := Lib.hid (HI.out.below hb1)
    have HB1 := Lib.hid (HB.out.trans (hb1.mono HB.out.size)); clear hb1
    rcases h1 with ⟨n, rfl, h1⟩ | ⟨n, rfl, h1⟩
    · have H1 := Lib.hid (E1.out ▸ h1); clear h1
      go_wp2_with fail
      refine (HP.out Y Z2.out _ HI1.out).mono ?_; rintro e w2 ⟨h2, hb2⟩
      have HI2 := Lib.hid (HI1.out.below hb2)
      have HB2 := Lib.hid (HB1.out.trans (hb2.mono HB1.out.size)); clear hb2
      rcases h2 with ⟨m, rfl, h2⟩ | ⟨m, rfl, h2⟩
      · have H2 := Lib.hid (E2.out ▸ h2); clear h2
        go_wp2_with fail
        cases ho : okR n m
        · have HM := Lib.hid (fun w => pmake_no ho w)
          have HO := Lib.hid (gParse_no3 H1.out H2.out ho); clear ho
          refine (HM.out _).mono ?_; rintro e w' ⟨rfl, rfl⟩
          go_wp2_with fail
          go_ret2
          exact ⟨_, by rw [HO.out]; rfl, HR.out, HB2.out⟩
        · have HM := Lib.hid (fun w => pmake_yes ho w)
          have HX := Lib.hid (fun w hT => text_W ho w hT)
          have HO := Lib.hid ho; clear ho
          refine (HM.out _).mono ?_; rintro e w' ⟨rfl, rfl⟩
          go_wp2_with fail
          refine (HX.out _ HI2.out.pow).mono ?_; rintro e w3 ⟨rfl, hb3⟩
          have HB3 := Lib.hid (HB2.out.trans (hb3.mono HB2.out.size)); clear hb3
          by_cases ht : textL n m = s.data.toList
          · have HG := Lib.hid (gParse_yes H1.out H2.out HO.out ht)
            rw [same_text ht]; clear ht
            have hq : (s.toList == s.toList) = true := (Lib.bytes_beq_iff _ _).2 rfl
            go_wp2_with fail
            go_ret2
            exact ⟨_, by rw [HG.out]; rfl, HR.out, HB3.out⟩
          · have HG := Lib.hid (gParse_no4 H1.out H2.out ht)
            have hq : (textL n m == s.toList) = false := by rw [Lib.toList_data]; exact beq_eq_false_iff_ne.2 ht
            clear ht
            go_wp2_with fail
            go_ret2
            exact ⟨_, by rw [HG.out]; rfl, HR.out, HB3.out⟩
      · have H2 := Lib.hid (E2.out ▸ h2); clear h2
        go_wp2_with fail
        have HO := Lib.hid (gParse_no2 H2.out)
        refine (make_any _ _ _).mono ?_; rintro e w' ⟨rfl, rfl⟩
        go_wp2_with fail
        go_ret2
        exact ⟨_, by rw [HO.out]; rfl, HR.out, HB2.out⟩
    · have H1 := Lib.hid (E1.out ▸ h1); clear h1
      go_wp2_with fail
      refine (HP.out Y Z2.out _ HI1.out).mono ?_; rintro e w2 ⟨h2, hb2⟩
      have HI2 := Lib.hid (HI1.out.below hb2)
      have HB2 := Lib.hid (HB1.out.trans (hb2.mono HB1.out.size)); clear hb2
      rcases h2 with ⟨m, rfl, h2⟩ | ⟨m, rfl, h2⟩
      · have H2 := Lib.hid (E2.out ▸ h2); clear h2
        go_wp2_with fail
        have HO := Lib.hid (gParse_no1 H1.out)
        refine (make_any _ _ _).mono ?_; rintro e w' ⟨rfl, rfl⟩
        go_wp2_with fail
        go_ret2
        exact ⟨_, by rw [HO.out]; rfl, HR.out, HB2.out⟩
      · have H2 := Lib.hid (E2.out ▸ h2); clear h2
        go_wp2_with fail
        have HO := Lib.hid (gParse_no1 H1.out)
        refine (make_any _ _ _).mono ?_; rintro e w' ⟨rfl, rfl⟩
        go_wp2_with fail
        go_ret2
        exact ⟨_, by rw [HO.out]; rfl, HR.out, HB2.out⟩
  · clear ha
    have Z1 := Lib.hid (show (⟨#[]⟩ : ByteArray).size ≤ 281474976710656 by decide)
    have Z2 := Lib.hid (Nat.le_trans HSZ.out.1 HSZ.out.2)
    have E1 := Lib.hid (show (⟨#[]⟩ : ByteArray).data.toList = (halves s.data.toList a).1 by unfold halves; rw [if_pos HH.out, if_neg hp])
    have E2 := Lib.hid (show IM.data.toList = (halves s.data.toList a).2 by unfold halves; rw [if_pos HH.out, if_neg hp, HM.out])
    have HI := HI'; have HB := HB'
    go_wp2_with fail
    refine (HP.out ⟨#[]⟩ Z1.out _ HI.out).mono ?_; rintro e w1 ⟨h1, hb1⟩
    have HI1 := Lib.hid (HI.out.below hb1)
    have HB1 := Lib.hid (HB.out.trans (hb1.mono HB.out.size)); clear hb1
    rcases h1 with ⟨n, rfl, h1⟩ | ⟨n, rfl, h1⟩
    · have H1 := Lib.hid (E1.out ▸ h1); clear h1
      go_wp2_with fail
      refine (HP.out IM Z2.out _ HI1.out).mono ?_; rintro e w2 ⟨h2, hb2⟩
      have HI2 := Lib.hid (HI1.out.below hb2)
      have HB2 := Lib.hid (HB1.out.trans (hb2.mono HB1.out.size)); clear hb2
      rcases h2 with ⟨m, rfl, h2⟩ | ⟨m, rfl, h2⟩
      · have H2 := Lib.hid (E2.out ▸ h2); clear h2
        go_wp2_with fail
        cases ho : okR n m
        · have HM := Lib.hid (fun w => pmake_no ho w)
          have HO := Lib.hid (gParse_no3 H1.out H2.out ho); clear ho
          refine (HM.out _).mono ?_; rintro e w' ⟨rfl, rfl⟩
          go_wp2_with fail
          go_ret2
          exact ⟨_, by rw [HO.out]; rfl, HR.out, HB2.out⟩
        · have HM := Lib.hid (fun w => pmake_yes ho w)
          have HX := Lib.hid (fun w hT => text_W ho w hT)
          have HO := Lib.hid ho; clear ho
          refine (HM.out _).mono ?_; rintro e w' ⟨rfl, rfl⟩
          go_wp2_with fail
          refine (HX.out _ HI2.out.pow).mono ?_; rintro e w3 ⟨rfl, hb3⟩
          have HB3 := Lib.hid (HB2.out.trans (hb3.mono HB2.out.size)); clear hb3
          by_cases ht : textL n m = s.data.toList
          · have HG := Lib.hid (gParse_yes H1.out H2.out HO.out ht)
            rw [same_text ht]; clear ht
            have hq : (s.toList == s.toList) = true := (Lib.bytes_beq_iff _ _).2 rfl
            go_wp2_with fail
            go_ret2
            exact ⟨_, by rw [HG.out]; rfl, HR.out, HB3.out⟩
          · have HG := Lib.hid (gParse_no4 H1.out H2.out ht)
            have hq : (textL n m == s.toList) = false := by rw [Lib.toList_data]; exact beq_eq_false_iff_ne.2 ht
            clear ht
            go_wp2_with fail
            go_ret2
            exact ⟨_, by rw [HG.out]; rfl, HR.out, HB3.out⟩
      · have H2 := Lib.hid (E2.out ▸ h2); clear h2
        go_wp2_with fail
        have HO := Lib.hid (gParse_no2 H2.out)
        refine (make_any _ _ _).mono ?_; rintro e w' ⟨rfl, rfl⟩
        go_wp2_with fail
        go_ret2
        exact ⟨_, by rw [HO.out]; rfl, HR.out, HB2.out⟩
    · have H1 := Lib.hid (E1.out ▸ h1); clear h1
      go_wp2_with fail
      refine (HP.out IM Z2.out _ HI1.out).mono ?_; rintro e w2 ⟨h2, hb2⟩
      have HI2 := Lib.hid (HI1.out.below hb2)
      have HB2 := Lib.hid (HB1.out.trans (hb2.mono HB1.out.size)); clear hb2
      rcases h2 with ⟨m, rfl, h2⟩ | ⟨m, rfl, h2⟩
      · have H2 := Lib.hid (E2.out ▸ h2); clear h2
        go_wp2_with fail
        have HO := Lib.hid (gParse_no1 H1.out)
        refine (make_any _ _ _).mono ?_; rintro e w' ⟨rfl, rfl⟩
        go_wp2_with fail
        go_ret2
        exact ⟨_, by rw [HO.out]; rfl, HR.out, HB2.out⟩
      · have H2 := Lib.hid (E2.out ▸ h2); clear h2
        go_wp2_with fail
        have HO := Lib.hid (gParse_no1 H1.out)
        refine (make_any _ _ _).mono ?_; rintro e w' ⟨rfl, rfl⟩
        go_wp2_with fail
        go_ret2
        exact ⟨_, by rw [HO.out]; rfl, HR.out, HB2.out⟩
end Go.Proofs.YtbhkclkahblfnaaGreatDoor
