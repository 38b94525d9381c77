/- Texts joined: Parse Backp Gp Scanl Scanc Scang Jump Mka. -/
import Derived.Test.YtgddkgbidhhheaaGreatDoorKwae
import Derived.Lib.Strings
import Derived.Lib.SlicesS
import Derived.Test.YtgddkgbidhhheaaGreatDoorKwab
import Derived.ScopeJumps
import Derived.WalkMore
import Derived.Test.YtgddkgbidhhheaaGreatDoorKwad
namespace Go.Proofs.YtgddkgbidhhheaaGreatDoor
open Go.RowKit Flo
namespace Flo
theorem gParse_yes {l:List UInt8} {a n m:Int} (h1:partL (halves l a).1=some n) (h2:partL (halves l a).2=some m) (ho:okR n m=true) (ht:textL n m=l):gParse l a=some (n,m):=by
 unfold gParse; rw [h1,h2]; exact if_pos ⟨ho,ht⟩
theorem gParse_no1 {l:List UInt8} {a:Int} (h1:partL (halves l a).1=none):gParse l a=none:=by
 unfold gParse; rw [h1]
theorem gParse_no2 {l:List UInt8} {a:Int} (h2:partL (halves l a).2=none):gParse l a=none:=by
 unfold gParse; rw [h2]; cases partL (halves l a).1<;>rfl
theorem gParse_no3 {l:List UInt8} {a n m:Int} (h1:partL (halves l a).1=some n) (h2:partL (halves l a).2=some m) (ho:okR n m=false):gParse l a=none:=by
 unfold gParse; rw [h1,h2]; exact if_neg (fun h=>by rw [ho] at h; cases h.1)
theorem gParse_no4 {l:List UInt8} {a n m:Int} (h1:partL (halves l a).1=some n) (h2:partL (halves l a).2=some m) (ht:textL n m≠l):gParse l a=none:=by
 unfold gParse; rw [h1,h2]; exact if_neg (fun h=>ht h.2)
end Flo
abbrev ii:ByteArray:=⟨#[105]⟩
def parseA:Option (Int × Int)→Value
 | some (x,y)=>.tuple #[.complex .f64 (W x) (W y),.int .i64 0]
 | none=>.tuple #[.complex .f64 0 0,.int .i64 10]
theorem text_W {x y:Int} (h:okR x y=true) (w:World) (hT:Pow w) :
  Calls Tryz.prog 61 #[.complex .f64 (W x) (W y)] w fun e w'=>e=.returned (.tuple #[.string ⟨(textL x y).toArray⟩,.int .i64 0])∧Below w.heap.size w w':=
 text_some (W_lt' _) (W_lt' _) (numC_R h) w hT
theorem pmake_yes {x y:Int} (h:okR x y=true) (w:World) :
  Calls Tryz.prog 60 #[.int .i64 x,.int .i64 y] w fun e w'=>e=.returned (.tuple #[.complex .f64 (W x) (W y),.int .i64 0])∧w=w':=by
 refine (make_any x y w).mono ?_
 rintro e w' ⟨rfl,rfl⟩
 refine ⟨?_,rfl⟩
 unfold gMake; rw [make_pos h]
theorem pmake_no {x y:Int} (h:okR x y=false) (w:World) :
  Calls Tryz.prog 60 #[.int .i64 x,.int .i64 y] w fun e w'=>e=.returned (.tuple #[.complex .f64 (W 0) (W 0),.int .i64 2])∧w=w':=by
 refine (make_any x y w).mono ?_
 rintro e w' ⟨rfl,rfl⟩
 refine ⟨?_,rfl⟩
 unfold gMake; rw [make_neg h]
theorem same_text {l:List UInt8} {s:ByteArray} (h:l=s.data.toList):(⟨l.toArray⟩:ByteArray)=s:=by
 subst h; apply ByteArray.ext; simp
set_option maxHeartbeats 8000000 in
set_option maxRecDepth 100000 in
theorem parse_none (s:ByteArray) (hs:s.size≤281474976710656) (w:World) (hI:Inv w) (hn:Lib.hasSuffix s.data.toList [105]=false) :
  Calls Tryz.prog 41 #[.string s] w fun e w'=>e=.returned (parseA (gParse s.data.toList (-1)))∧Below w.heap.size w w':=by
 have HI:=Lib.hid hI
 have Z1:=Lib.hid hs
 have Z2:=Lib.hid (show (⟨#[]⟩:ByteArray).size≤281474976710656 by decide)
 have HP:=Lib.hid gpart_any
 have HB:=Lib.hid (Below.refl w.heap.size w)
 have hQ:=(Tryz.strings_HasSuffix s ii w (by omega))
 rw [show ii.data.toList=[105] from rfl,hn] at hQ
 have HQ:=Lib.hid hQ
 have E1:=Lib.hid (show s.data.toList=(halves s.data.toList (-1)).1 by unfold halves; rw [if_neg (by rw [hn]; decide)])
 have E2:=Lib.hid (show (⟨#[]⟩:ByteArray).data.toList=(halves s.data.toList (-1)).2 by unfold halves; rw [if_neg (by rw [hn]; decide)])
 clear hI hs hn hQ
 go_enter Tryz.func41,Tryz.ntmps41
 go_wp2_with fail
 refine HQ.out.mono ?_; rintro e w' ⟨rfl,rfl⟩
 go_wp2_with fail
 refine (HP.out s Z1.out _ HI.out).mono ?_; rintro e w1 ⟨h1,hb1⟩
 have HI1:=Lib.hid (HI.out.below hb1)
 have HB1:=Lib.hid (HB.out.trans (hb1.mono HB.out.size)); clear hb1
 rcases h1 with ⟨n,rfl,h1⟩ | ⟨n,rfl,h1⟩
 ·have H1:=Lib.hid (E1.out ▸ h1); clear h1
  go_wp2_with fail
  refine (HP.out ⟨#[]⟩ Z2.out _ HI1.out).mono ?_; rintro e w2 ⟨h2,hb2⟩
  have HI2:=Lib.hid (HI1.out.below hb2)
  have HB2:=Lib.hid (HB1.out.trans (hb2.mono HB1.out.size)); clear hb2
  rcases h2 with ⟨m,rfl,h2⟩ | ⟨m,rfl,h2⟩
  ·have H2:=Lib.hid (E2.out ▸ h2); clear h2
   go_wp2_with fail
   cases ho:okR n m
   ·have HM:=Lib.hid (fun w=>pmake_no ho w)
    have HO:=Lib.hid (gParse_no3 H1.out H2.out ho); clear ho
    refine (HM.out _).mono ?_; rintro e w' ⟨rfl,rfl⟩
    go_wp2_with fail
    go_ret2
    exact ⟨by rw [HO.out]; rfl,HB2.out⟩
   ·have HM:=Lib.hid (fun w=>pmake_yes ho w)
    have HX:=Lib.hid (fun w hT=>text_W ho w hT)
    have HO:=Lib.hid ho; clear ho
    refine (HM.out _).mono ?_; rintro e w' ⟨rfl,rfl⟩
    go_wp2_with fail
    refine (HX.out _ HI2.out.pow).mono ?_; rintro e w3 ⟨rfl,hb3⟩
    have HB3:=Lib.hid (HB2.out.trans (hb3.mono HB2.out.size)); clear hb3
    by_cases ht:textL n m=s.data.toList
    ·have HG:=Lib.hid (gParse_yes H1.out H2.out HO.out ht)
     rw [same_text ht]; clear ht
     have hq:(s.toList == s.toList)=true:=(Lib.bytes_beq_iff _ _).2 rfl
     go_wp2_with fail
     go_ret2
     exact ⟨by rw [HG.out]; rfl,HB3.out⟩
    ·have HG:=Lib.hid (gParse_no4 H1.out H2.out ht)
     have hq:(textL n m == s.toList)=false:=by rw [Lib.toList_data]; exact beq_eq_false_iff_ne.2 ht
     clear ht
     go_wp2_with fail
     go_ret2
     exact ⟨by rw [HG.out]; rfl,HB3.out⟩
  ·have H2:=Lib.hid (E2.out ▸ h2); clear h2
   go_wp2_with fail
   have HO:=Lib.hid (gParse_no2 H2.out)
   refine (make_any _ _ _).mono ?_; rintro e w' ⟨rfl,rfl⟩
   go_wp2_with fail
   go_ret2
   exact ⟨by rw [HO.out]; rfl,HB2.out⟩
 ·have H1:=Lib.hid (E1.out ▸ h1); clear h1
  go_wp2_with fail
  refine (HP.out ⟨#[]⟩ Z2.out _ HI1.out).mono ?_; rintro e w2 ⟨h2,hb2⟩
  have HI2:=Lib.hid (HI1.out.below hb2)
  have HB2:=Lib.hid (HB1.out.trans (hb2.mono HB1.out.size)); clear hb2
  rcases h2 with ⟨m,rfl,h2⟩ | ⟨m,rfl,h2⟩
  ·have H2:=Lib.hid (E2.out ▸ h2); clear h2
   go_wp2_with fail
   have HO:=Lib.hid (gParse_no1 H1.out)
   refine (make_any _ _ _).mono ?_; rintro e w' ⟨rfl,rfl⟩
   go_wp2_with fail
   go_ret2
   exact ⟨by rw [HO.out]; rfl,HB2.out⟩
  ·have H2:=Lib.hid (E2.out ▸ h2); clear h2
   go_wp2_with fail
   have HO:=Lib.hid (gParse_no1 H1.out)
   refine (make_any _ _ _).mono ?_; rintro e w' ⟨rfl,rfl⟩
   go_wp2_with fail
   go_ret2
   exact ⟨by rw [HO.out]; rfl,HB2.out⟩
set_option maxHeartbeats 8000000 in
set_option maxRecDepth 100000 in
theorem parse_suf (s : ByteArray) (hs : s.size ≤ 281474976710656) (w : World) (hI : Inv w) (hn : Lib.hasSuffix s.data.toList [105] = true) (R : Int → Prop) (hl : ∀ w, Inv w → Calls Tryz.prog 57 #[.string ⟨(Lib.trimSuffix s.data.toList [105]).toArray⟩, .string pm] w fun e w' => ∃ a, e = .returned (.int .i64 a) ∧ (R a ∧ (a = -1 ∨ ∃ i : Nat, a = i ∧ i < (Lib.trimSuffix s.data.toList [105]).length)) ∧ Below w.heap.size w w') :
    Calls Tryz.prog 41 #[.string s] w fun e w' => ∃ a, e = .returned (parseA (gParse s.data.toList a)) ∧ R a ∧ Below w.heap.size w w' := by
  have hT := Tryz.strings_TrimSuffix s ii w (by omega)
  rw [show ii.data.toList = [105] from rfl] at hT
  obtain ⟨IM, hIM⟩ : ∃ IM : ByteArray, IM = ⟨(Lib.trimSuffix s.data.toList [105]).toArray⟩ := ⟨_, rfl⟩
  have hm : IM.data.toList = Lib.trimSuffix s.data.toList [105] := by rw [hIM]
  have hms : IM.size ≤ s.size := by
    rw [Lib.size_eq, hm, Lib.size_eq]; unfold Lib.trimSuffix; split <;> first | (rw [List.length_take]; omega) | exact Nat.le_refl _
  have hlen : (Lib.trimSuffix s.data.toList [105]).length = IM.size := by rw [Lib.size_eq, hm]
  rw [← hIM] at hT
  rw [← hIM, hlen] at hl
  have HI := Lib.hid hI
  have HP := Lib.hid gpart_any
  have HB := Lib.hid (Below.refl w.heap.size w)
  have hQ := (Tryz.strings_HasSuffix s ii w (by omega))
  rw [show ii.data.toList = [105] from rfl, hn] at hQ
  have HQ := Lib.hid hQ
  have HT := Lib.hid hT
  have HL := Lib.hid hl
  have HM := Lib.hid hm
  have HSZ := Lib.hid (And.intro hms hs)
  have HH := Lib.hid hn
  clear hI hs hn hQ hT hl hm hms hlen hIM
  go_enter Tryz.func41, Tryz.ntmps41
  go_wp2_with fail
  refine HQ.out.mono ?_; rintro e w' ⟨rfl, rfl⟩
  go_wp2_with fail
  refine HT.out.mono ?_; rintro e w' ⟨rfl, rfl⟩
  go_wp2_with fail
  refine (HL.out _ HI.out).mono ?_; rintro e w0 ⟨a, rfl, ⟨hR, ha⟩, hb⟩
  have HR := Lib.hid hR
  have HI' := Lib.hid (HI.out.below hb)
  have HB' := Lib.hid hb
  clear hb hR
  by_cases hp : 0 < a
  · obtain ⟨i, rfl, hi⟩ : ∃ i : Nat, a = i ∧ i < IM.size := by
      rcases ha with rfl | h
      · omega
      · exact h
    clear ha
    have hi48 : IM.size ≤ 281474976710656 := Nat.le_trans HSZ.out.1 HSZ.out.2
    go_wp2_with fail
    obtain ⟨Y, hY⟩ : ∃ Y : ByteArray, Y = ⟨(Lib.trimPrefix (IM.extract i IM.size).data.toList [43]).toArray⟩ := ⟨_, rfl⟩
    have HTP := Lib.hid (fun w => Tryz.strings_TrimPrefix (IM.extract i IM.size) ⟨#[43]⟩ w)
    rw [show (⟨#[43]⟩ : ByteArray).data.toList = [43] from rfl, ← hY] at HTP
    have hys : Y.size ≤ IM.size := by
      rw [Lib.size_eq, hY]
      have h1 : (IM.extract i IM.size).data.toList.length ≤ IM.size := by rw [← Lib.size_eq, ByteArray.size_extract]; omega
      unfold Lib.trimPrefix
      split
      · simp only [List.length_drop]; omega
      · exact h1
    have Z1 := Lib.hid (show (IM.extract 0 i).size ≤ 281474976710656 by rw [ByteArray.size_extract]; omega)
    have Z2 := Lib.hid (show Y.size ≤ 281474976710656 by omega)
    have E1 := Lib.hid (show (IM.extract 0 i).data.toList = (halves s.data.toList i).1 by
      unfold halves; rw [if_pos HH.out, if_pos hp, ← HM.out, Lib.extract_eq]; simp)
    have E2 := Lib.hid (show Y.data.toList = (halves s.data.toList i).2 by
      unfold halves
      have ht : ((IM.data.toList.drop i).take (IM.size - i)) = IM.data.toList.drop i := List.take_of_length_le (by rw [List.length_drop, ← Lib.size_eq]; exact Nat.le_refl _)
      rw [if_pos HH.out, if_pos hp, ← HM.out, hY, Lib.extract_eq, ht]; simp)
    clear hY hys
    go_quiet (refine Calls.quiet_of_same (HTP.out _))
    have HI := Lib.hid (HI'.out.below (Go.below_drewN (Below.refl _ _) nq))
    have HB := Lib.hid (Go.below_drewN HB'.out nq)
    go_wp2_with fail
    refine (HP.out (IM.extract 0 i) Z1.out _ HI.out).mono ?_; rintro e w1 ⟨h1, hb1⟩
    have HI1 := Lib.hid (HI.out.below hb1)
    have HB1 := Lib.hid (HB.out.trans (hb1.mono HB.out.size)); clear hb1
    rcases h1 with ⟨n, rfl, h1⟩ | ⟨n, rfl, h1⟩
    · have H1 := Lib.hid (E1.out ▸ h1); clear h1
      go_wp2_with fail
      refine (HP.out Y Z2.out _ HI1.out).mono ?_; rintro e w2 ⟨h2, hb2⟩
      have HI2 := Lib.hid (HI1.out.below hb2)
      have HB2 := Lib.hid (HB1.out.trans (hb2.mono HB1.out.size)); clear hb2
      rcases h2 with ⟨m, rfl, h2⟩ | ⟨m, rfl, h2⟩
      · have H2 := Lib.hid (E2.out ▸ h2); clear h2
        go_wp2_with fail
        cases ho : okR n m
        · have HM := Lib.hid (fun w => pmake_no ho w)
          have HO := Lib.hid (gParse_no3 H1.out H2.out ho); clear ho
          refine (HM.out _).mono ?_; rintro e w' ⟨rfl, rfl⟩
          go_wp2_with fail
          go_ret2
          exact ⟨_, by rw [HO.out]; rfl, HR.out, HB2.out⟩
        · have HM := Lib.hid (fun w => pmake_yes ho w)
          have HX := Lib.hid (fun w hT => text_W ho w hT)
          have HO := Lib.hid ho; clear ho
          refine (HM.out _).mono ?_; rintro e w' ⟨rfl, rfl⟩
          go_wp2_with fail
          refine (HX.out _ HI2.out.pow).mono ?_; rintro e w3 ⟨rfl, hb3⟩
          have HB3 := Lib.hid (HB2.out.trans (hb3.mono HB2.out.size)); clear hb3
          by_cases ht : textL n m = s.data.toList
          · have HG := Lib.hid (gParse_yes H1.out H2.out HO.out ht)
            rw [same_text ht]; clear ht
            have hq : (s.toList == s.toList) = true := (Lib.bytes_beq_iff _ _).2 rfl
            go_wp2_with fail
            go_ret2
            exact ⟨_, by rw [HG.out]; rfl, HR.out, HB3.out⟩
          · have HG := Lib.hid (gParse_no4 H1.out H2.out ht)
            have hq : (textL n m == s.toList) = false := by rw [Lib.toList_data]; exact beq_eq_false_iff_ne.2 ht
            clear ht
            go_wp2_with fail
            go_ret2
            exact ⟨_, by rw [HG.out]; rfl, HR.out, HB3.out⟩
      · have H2 := Lib.hid (E2.out ▸ h2); clear h2
        go_wp2_with fail
        have HO := Lib.hid (gParse_no2 H2.out)
        refine (make_any _ _ _).mono ?_; rintro e w' ⟨rfl, rfl⟩
        go_wp2_with fail
        go_ret2
        exact ⟨_, by rw [HO.out]; rfl, HR.out, HB2.out⟩
    · have H1 := Lib.hid (E1.out ▸ h1); clear h1
      go_wp2_with fail
      refine (HP.out Y Z2.out _ HI1.out).mono ?_; rintro e w2 ⟨h2, hb2⟩
      have HI2 := Lib.hid (HI1.out.below hb2)
      have HB2 := Lib.hid (HB1.out.trans (hb2.mono HB1.out.size)); clear hb2
      rcases h2 with ⟨m, rfl, h2⟩ | ⟨m, rfl, h2⟩
      · have H2 := Lib.hid (E2.out ▸ h2); clear h2
        go_wp2_with fail
        have HO := Lib.hid (gParse_no1 H1.out)
        refine (make_any _ _ _).mono ?_; rintro e w' ⟨rfl, rfl⟩
        go_wp2_with fail
        go_ret2
        exact ⟨_, by rw [HO.out]; rfl, HR.out, HB2.out⟩
      · have H2 := Lib.hid (E2.out ▸ h2); clear h2
        go_wp2_with fail
        have HO := Lib.hid (gParse_no1 H1.out)
        refine (make_any _ _ _).mono ?_; rintro e w' ⟨rfl, rfl⟩
        go_wp2_with fail
        go_ret2
        exact ⟨_, by rw [HO.out]; rfl, HR.out, HB2.out⟩
  · clear ha
    have Z1 := Lib.hid (show (⟨#[]⟩ : ByteArray).size ≤ 281474976710656 by decide)
    have Z2 := Lib.hid (Nat.le_trans HSZ.out.1 HSZ.out.2)
    have E1 := Lib.hid (show (⟨#[]⟩ : ByteArray).data.toList = (halves s.data.toList a).1 by unfold halves; rw [if_pos HH.out, if_neg hp])
    have E2 := Lib.hid (show IM.data.toList = (halves s.data.toList a).2 by unfold halves; rw [if_pos HH.out, if_neg hp, HM.out])
    have HI := HI'; have HB := HB'
    go_wp2_with fail
    refine (HP.out ⟨#[]⟩ Z1.out _ HI.out).mono ?_; rintro e w1 ⟨h1, hb1⟩
    have HI1 := Lib.hid (HI.out.below hb1)
    have HB1 := Lib.hid (HB.out.trans (hb1.mono HB.out.size)); clear hb1
    rcases h1 with ⟨n, rfl, h1⟩ | ⟨n, rfl, h1⟩
    · have H1 := Lib.hid (E1.out ▸ h1); clear h1
      go_wp2_with fail
      refine (HP.out IM Z2.out _ HI1.out).mono ?_; rintro e w2 ⟨h2, hb2⟩
      have HI2 := Lib.hid (HI1.out.below hb2)
      have HB2 := Lib.hid (HB1.out.trans (hb2.mono HB1.out.size)); clear hb2
      rcases h2 with ⟨m, rfl, h2⟩ | ⟨m, rfl, h2⟩
      · have H2 := Lib.hid (E2.out ▸ h2); clear h2
        go_wp2_with fail
        cases ho : okR n m
        · have HM := Lib.hid (fun w => pmake_no ho w)
          have HO := Lib.hid (gParse_no3 H1.out H2.out ho); clear ho
          refine (HM.out _).mono ?_; rintro e w' ⟨rfl, rfl⟩
          go_wp2_with fail
          go_ret2
          exact ⟨_, by rw [HO.out]; rfl, HR.out, HB2.out⟩
        · have HM := Lib.hid (fun w => pmake_yes ho w)
          have HX := Lib.hid (fun w hT => text_W ho w hT)
          have HO := Lib.hid ho; clear ho
          refine (HM.out _).mono ?_; rintro e w' ⟨rfl, rfl⟩
          go_wp2_with fail
          refine (HX.out _ HI2.out.pow).mono ?_; rintro e w3 ⟨rfl, hb3⟩
          have HB3 := Lib.hid (HB2.out.trans (hb3.mono HB2.out.size)); clear hb3
          by_cases ht : textL n m = s.data.toList
          · have HG := Lib.hid (gParse_yes H1.out H2.out HO.out ht)
            rw [same_text ht]; clear ht
            have hq : (s.toList == s.toList) = true := (Lib.bytes_beq_iff _ _).2 rfl
            go_wp2_with fail
            go_ret2
            exact ⟨_, by rw [HG.out]; rfl, HR.out, HB3.out⟩
          · have HG := Lib.hid (gParse_no4 H1.out H2.out ht)
            have hq : (textL n m == s.toList) = false := by rw [Lib.toList_data]; exact beq_eq_false_iff_ne.2 ht
            clear ht
            go_wp2_with fail
            go_ret2
            exact ⟨_, by rw [HG.out]; rfl, HR.out, HB3.out⟩
      · have H2 := Lib.hid (E2.out ▸ h2); clear h2
        go_wp2_with fail
        have HO := Lib.hid (gParse_no2 H2.out)
        refine (make_any _ _ _).mono ?_; rintro e w' ⟨rfl, rfl⟩
        go_wp2_with fail
        go_ret2
        exact ⟨_, by rw [HO.out]; rfl, HR.out, HB2.out⟩
    · have H1 := Lib.hid (E1.out ▸ h1); clear h1
      go_wp2_with fail
      refine (HP.out IM Z2.out _ HI1.out).mono ?_; rintro e w2 ⟨h2, hb2⟩
      have HI2 := Lib.hid (HI1.out.below hb2)
      have HB2 := Lib.hid (HB1.out.trans (hb2.mono HB1.out.size)); clear hb2
      rcases h2 with ⟨m, rfl, h2⟩ | ⟨m, rfl, h2⟩
      · have H2 := Lib.hid (E2.out ▸ h2); clear h2
        go_wp2_with fail
        have HO := Lib.hid (gParse_no1 H1.out)
        refine (make_any _ _ _).mono ?_; rintro e w' ⟨rfl, rfl⟩
        go_wp2_with fail
        go_ret2
        exact ⟨_, by rw [HO.out]; rfl, HR.out, HB2.out⟩
      · have H2 := Lib.hid (E2.out ▸ h2); clear h2
        go_wp2_with fail
        have HO := Lib.hid (gParse_no1 H1.out)
        refine (make_any _ _ _).mono ?_; rintro e w' ⟨rfl, rfl⟩
        go_wp2_with fail
        go_ret2
        exact ⟨_, by rw [HO.out]; rfl, HR.out, HB2.out⟩
end Go.Proofs.YtgddkgbidhhheaaGreatDoor
namespace Go.Proofs.YtgddkgbidhhheaaGreatDoor
open Go.RowKit Flo
namespace Flo
theorem itoa_asc (x:Int):∀ b ∈ Lib.itoa x,b.toNat < 128:=by
 intro b hb
 obtain ⟨j,hj⟩:=List.getElem?_of_mem hb
 rcases itoa_at x j b hj with h | ⟨_,rfl⟩
 ·omega
 ·decide
theorem textL_asc (x y:Int):∀ b ∈ textL x y,b.toNat < 128:=by
 intro b hb
 unfold textL at hb
 have h1:=itoa_asc x b; have h2:=itoa_asc y b
 split at hb
 ·exact h1 hb
 ·split at hb
  ·simp only [List.mem_append,List.mem_singleton] at hb
   rcases hb with h | rfl
   ·exact h2 h
   ·decide
  ·split at hb
   ·simp only [List.mem_append,List.mem_singleton] at hb
    rcases hb with ((h | rfl) | h) | rfl
    ·exact h1 h
    ·decide
    ·exact h2 h
    ·decide
   ·simp only [List.mem_append,List.mem_singleton] at hb
    rcases hb with (h | h) | rfl
    ·exact h1 h
    ·exact h2 h
    ·decide
theorem trim_mem {l p:List UInt8} {b:UInt8} (h:b ∈ Lib.trimSuffix l p):b ∈ l:=by
 unfold Lib.trimSuffix at h
 split at h
 ·exact List.mem_of_mem_take h
 ·exact h
theorem gParse_plain {x y:Int} {a:Int} (h:okR x y=true) (hn:Lib.hasSuffix (textL x y) [105]=false):gParse (textL x y) a=some (x,y):=by
 have hy:y=0:=by
  by_cases hy:y=0
  ·exact hy
  ·rw [textL_i hy,suf_app] at hn; cases hn
 have e:textL x y=Lib.itoa x:=by unfold textL; rw [if_pos hy]
 have hh:halves (textL x y) a=(textL x y,[]):=by unfold halves; rw [if_neg (by rw [hn]; decide)]
 refine gParse_yes ?_ ?_ h rfl
 ·rw [hh,e]; exact partL_itoa (okR_iff.1 h).1
 ·rw [hh,hy]; exact partL_nil
end Flo
end Go.Proofs.YtgddkgbidhhheaaGreatDoor
namespace Go.Proofs.YtgddkgbidhhheaaGreatDoor
open Go.RowKit Flo
namespace Flo
theorem parse_same0 {l:List UInt8} {a:Int} (hn:Lib.hasSuffix l [105]=false):gParse l a=refParse l:=by
 cases hr:refParse l with
 | some p=>
  obtain ⟨x,y⟩:=p
  obtain ⟨h1,h2⟩:=refParse_some hr
  rw [← h2] at hn ⊢
  exact gParse_plain h1 hn
 | none=>
  cases hg:gParse l a with
  | none=>rfl
  | some p=>
   obtain ⟨x,y⟩:=p
   obtain ⟨h1,h2⟩:=gParse_some hg
   rw [← h2,refParse_text h1] at hr
   cases hr
end Flo
theorem gparse_any (s:ByteArray) (hs:s.size≤140737488351232) (w:World) (hI:Inv w) :
  Calls Tryz.prog 41 #[.string s] w fun e w'=>e=.returned (parseA (refParse s.data.toList))∧Below w.heap.size w w':=by
 cases hn:Lib.hasSuffix s.data.toList [105]
 ·refine (parse_none s (by omega) w hI hn).mono ?_
  rintro e w' ⟨rfl,hb⟩
  exact ⟨by rw [parse_same0 hn],hb⟩
 ·refine (parse_suf s (by omega) w hI hn (fun a=>(∀ (j:Nat) b,(Lib.trimSuffix s.data.toList [105])[j]? = some b→b.toNat < 128)→LastPM (Lib.trimSuffix s.data.toList [105]) a) ?_).mono ?_
  ·intro w hI
   refine (last_any ⟨(Lib.trimSuffix s.data.toList [105]).toArray⟩ w hI ?_).mono ?_
   ·rw [Lib.size_eq]
    show (Lib.trimSuffix s.data.toList [105]).length < _
    have h1:(Lib.trimSuffix s.data.toList [105]).length≤s.data.toList.length:=by
     unfold Lib.trimSuffix; split<;>first | (rw [List.length_take]; omega) | exact Nat.le_refl _
    rw [← Lib.size_eq] at h1; omega
   ·rintro e w' ⟨a,rfl,⟨h1,h2⟩,hb⟩
    exact ⟨a,rfl,⟨h1,h2⟩,hb⟩
  ·rintro e w' ⟨a,rfl,ha,hb⟩
   refine ⟨?_,hb⟩
   rw [parse_same ha (fun x y h j b hb=>textL_asc x y b (by rw [h]; exact trim_mem (List.mem_of_getElem? hb)))]
end Go.Proofs.YtgddkgbidhhheaaGreatDoor
namespace Go.Proofs.YtgddkgbidhhheaaGreatDoor
namespace Mk
open Flo
def app (n:Nat) (x:Except Nat (List M)) (b:List UInt8):Except Nat (List M):=
 match x with
 | .error a=>.error a
 | .ok ms=>fin ms.dropLast (scan b n)
def mv (n:Nat) (m:M):M:={ m with pos:=m.pos + n }
end Mk
end Go.Proofs.YtgddkgbidhhheaaGreatDoor
namespace Go.Proofs.YtgddkgbidhhheaaGreatDoor
namespace Mk
open Flo
def fs:List UInt8→Bool→Option Bool
 | [],s=>some s
 | c :: r,s=>if c=10 then fs r false else if c=35 then fs r true else if s=false∧blankB c=false then none else fs r s
theorem resv_head:∀ x ∈ resv,(x.head?.map runB)=some true∧(x.head?.map digB)=some false:=by decide
theorem one_kind {l:List UInt8} {at':Nat} {m:M} (h:one l at'=some m):m.kind≠4∧(m.kind=1↔m.text ∈ resv)∧(m.kind≠2→m.num=(0,0)):=by
 unfold one at h
 split at h
 ·rename_i hr
  unfold wordM at h
  split at h
  ·rename_i hd
   cases hp:refParse (l.takeWhile runB) with
   | none=>rw [hp] at h; cases h
   | some p=>
    rw [hp] at h; cases h
    refine ⟨by simp,⟨fun h=>(by cases h),fun h=>?_⟩,fun h=>absurd rfl h⟩
    have:=(resv_head _ h).2
    rw [show (l.takeWhile runB).head?.map digB=some true from hd] at this
    cases this
  ·split at h
   ·rename_i hm; cases h; exact ⟨by simp,⟨fun _=>hm,fun _=>rfl⟩,fun _=>rfl⟩
   ·rename_i hm
    split at h
    ·cases h
    ·cases h; exact ⟨by simp,⟨fun h=>(by cases h),fun h=>absurd h hm⟩,fun _=>rfl⟩
 ·rename_i hr
  split at h
  ·cases h
  ·rename_i hs
   cases h
   refine ⟨by simp,⟨fun h=>(by cases h),fun h=>?_⟩,fun _=>rfl⟩
   have h1:=(resv_head _ h).1
   cases l with
   | nil=>exact absurd rfl hs
   | cons c r=>
    obtain ⟨k,hk⟩:∃ k,signL (c :: r)=k + 1:=⟨signL (c :: r) - 1,by omega⟩
    rw [show (M.text ⟨3,(c :: r).take (signL (c :: r)),(0,0),at'⟩)=c :: r.take k by rw [hk]; rfl] at h1
    exact absurd h1 hr
end Mk
end Go.Proofs.YtgddkgbidhhheaaGreatDoor
namespace Go.Proofs.YtgddkgbidhhheaaGreatDoor
namespace Mk
open Flo
def Tok (m:M):Prop:=∃ c r at',one (c :: r) at'=some m∧blankB c=false∧c≠35
theorem scan_toks (k:Nat):∀ (l:List UInt8) (at':Nat) (ms:List M),l.length < k→scan l at'=.ok ms→∃ ts e,ms=ts++[⟨4,[],(0,0),e⟩]∧∀ m ∈ ts,Tok m:=by
 induction k with
 | zero=>intro l _ _ h; omega
 | succ k ih=>
  intro l at' ms hk h
  cases l with
  | nil=>rw [scan_nil] at h; cases h; exact ⟨[],at',rfl,by simp⟩
  | cons c r=>
   simp only [List.length_cons] at hk
   by_cases hb:blankB c=true
   ·rw [scan_blank hb] at h; exact ih r _ _ (by omega) h
   ·by_cases h35:c=35
    ·subst h35
     rw [scan_hash,rem_cons (by decide)] at h
     exact ih _ _ _ (by have:=drop_len (· != 10) r; omega) h
    ·rw [scan_one (by simpa using hb) h35] at h
     cases ho:one (c :: r) at' with
     | none=>rw [ho] at h; cases h
     | some m=>
      rw [ho] at h
      obtain ⟨_,_,h3,h4⟩:=one_text ho
      simp only [List.length_cons] at h4
      change pre m _=_ at h
      cases hs:scan ((c :: r).drop m.text.length) (at' + m.text.length) with
      | error a=>rw [hs] at h; cases h
      | ok xs=>
       rw [hs] at h; cases h
       obtain ⟨ts,e,rfl,ht⟩:=ih _ _ _ (by rw [List.length_drop]; simp only [List.length_cons]; omega) hs
       refine ⟨m :: ts,e,rfl,fun x hx=>?_⟩
       rcases List.mem_cons.1 hx with rfl | hx
       ·exact ⟨c,r,at',ho,by simpa using hb,h35⟩
       ·exact ht x hx
end Mk
end Go.Proofs.YtgddkgbidhhheaaGreatDoor
namespace Go.Proofs.YtgddkgbidhhheaaGreatDoor
def jumpsQ (J:Nat→Act→World→Prop) (Q:Exit→Act→World→Prop):Exit→Act→World→Prop
 | .goto l',a,w=>J l' a w
 | e,a,w=>Q e a w
section
variable {P:Program} {a:Act} {w:World} {Q:Exit→Act→World→Prop}
theorem wp_scope_many {c:Code} (J:Nat→Nat→Act→World→Prop)
  (first:c.wp P (jumpsQ (fun l a w=>∃ n,J n l a w) Q) a w)
  (pass:∀ n l a w,J n l a w→∃ rest,findLabel c l=some rest∧rest.wp P (jumpsQ (fun l' a' w'=>∃ n',J n' l' a' w'∧n' < n) Q) a w):(Code.scope c).wp P Q a w:=by
 intro b k cs
 have key:∀ n l a w,J n l a w→∃ rest,findLabel c l=some rest∧∃ e a' w',Q e a' w'∧Arrives P (lone (b.at a (.code rest :: .inScope c :: k)) cs w) b k cs e a' w':=by
  intro n
  induction n using Nat.strongRecOn with
  | _ n ih=>
   intro l a w hJ
   obtain ⟨rest,hf,hp⟩:=pass n l a w hJ
   refine ⟨rest,hf,?_⟩
   obtain ⟨e,a₁,w₁,hq,harr⟩:=hp b (.inScope c :: k) cs
   cases e with
   | normal=>exact ⟨.normal,a₁,w₁,hq,Steps.trans harr (.one step_inScope)⟩
   | exit id=>exact ⟨.exit id,a₁,w₁,hq,fun k' hk=>harr k' (by simp [exitTo,hk])⟩
   | goto l'=>
    obtain ⟨n',hJ',hlt⟩:=hq
    obtain ⟨rest',hf',e₂,a₂,w₂,hq₂,harr₂⟩:=ih n' hlt l' a₁ w₁ hJ'
    exact ⟨e₂,a₂,w₂,hq₂,.of_steps (harr _ (by simp [gotoIn,hf'])) harr₂⟩
   | ret=>exact ⟨_,a₁,w₁,hq,harr⟩
   | panic ch=>exact ⟨_,a₁,w₁,hq,harr⟩
   | outgrown=>exact ⟨_,a₁,w₁,hq,harr⟩
 obtain ⟨e,a₁,w₁,hq,harr⟩:=first b (.inScope c :: k) cs
 cases e with
 | normal=>exact ⟨.normal,a₁,w₁,hq,.head step_scope (Steps.trans harr (.one step_inScope))⟩
 | exit id=>exact ⟨.exit id,a₁,w₁,hq,fun k' hk=>.head step_scope (harr k' (by simp [exitTo,hk]))⟩
 | goto l'=>
  obtain ⟨n',hJ'⟩:=hq
  obtain ⟨rest',hf',e₂,a₂,w₂,hq₂,harr₂⟩:=key n' l' a₁ w₁ hJ'
  exact ⟨e₂,a₂,w₂,hq₂,.of_steps (.head step_scope (harr _ (by simp [gotoIn,hf']))) harr₂⟩
 | ret=>exact ⟨_,a₁,w₁,hq,.of_steps (.one step_scope) harr⟩
 | panic ch=>exact ⟨_,a₁,w₁,hq,.of_steps (.one step_scope) harr⟩
 | outgrown=>exact ⟨_,a₁,w₁,hq,.of_steps (.one step_scope) harr⟩
theorem code_mono {c:Code} {Q':Exit→Act→World→Prop} (h:c.wp P Q a w) (hq:∀ e a w,Q e a w→Q' e a w):c.wp P Q' a w:=by
 intro b k cs
 obtain ⟨e,a₁,w₁,h1,h2⟩:=h b k cs
 exact ⟨e,a₁,w₁,hq _ _ _ h1,h2⟩
theorem skip_seq {c:Code} (h:c.wp P Q a w):(Code.seq .skip c).wp P Q a w:=wp_seq (wp_skip h)
theorem jumps_mono {c:Code} {J J':Nat→Act→World→Prop} (h:c.wp P (jumpsQ J Q) a w) (hj:∀ l a w,J l a w→J' l a w):c.wp P (jumpsQ J' Q) a w:=by
 refine code_mono h fun e a w h=>?_
 cases e with
 | goto l'=>exact hj _ _ _ h
 | normal=>exact h
 | exit _=>exact h
 | ret=>exact h
 | panic _=>exact h
 | outgrown=>exact h
theorem wp_scope_from {c : Code} (J : Nat → Nat → Act → World → Prop)
    (pass : ∀ n l a w, J n l a w → (∀ n' l' a' w' rest, n' < n → J n' l' a' w' → findLabel c l' = some (.seq .skip rest) → rest.wp P (jumpsQ (fun l a w => ∃ k, J k l a w ∧ k < n) Q) a' w') →
      ∃ rest, findLabel c l = some (.seq .skip rest) ∧ rest.wp P (jumpsQ (fun l a w => ∃ k, J k l a w ∧ k < n) Q) a w)
    (first : (∀ n l a w rest, J n l a w → findLabel c l = some (.seq .skip rest) → rest.wp P (jumpsQ (fun l a w => ∃ n, J n l a w) Q) a w) → c.wp P (jumpsQ (fun l a w => ∃ n, J n l a w) Q) a w) : (Code.scope c).wp P Q a w := by
  have key : ∀ n l a w, J n l a w → ∃ rest, findLabel c l = some (.seq .skip rest) ∧ rest.wp P (jumpsQ (fun l a w => ∃ k, J k l a w ∧ k < n) Q) a w := by
    intro n
    induction n using Nat.strongRecOn with
    | _ n ih =>
      intro l a w hJ
      refine pass n l a w hJ fun n' l' a' w' rest hn hJ' hf => ?_
      obtain ⟨rest', hf', hp⟩ := ih n' hn l' a' w' hJ'
      rw [hf] at hf'
      cases hf'
      exact jumps_mono hp fun l a w ⟨k, h1, h2⟩ => ⟨k, h1, Nat.lt_trans h2 hn⟩
  refine wp_scope_many J (first fun n l a w rest hJ hf => ?_) (fun n l a w hJ => ?_)
  · obtain ⟨rest', hf', hp⟩ := key n l a w hJ
    rw [hf] at hf'
    cases hf'
    exact jumps_mono hp fun l a w ⟨k, h1, _⟩ => ⟨k, h1⟩
  · obtain ⟨rest, hf, hp⟩ := key n l a w hJ
    exact ⟨_, hf, skip_seq hp⟩
end
end Go.Proofs.YtgddkgbidhhheaaGreatDoor
namespace Go.Proofs.YtgddkgbidhhheaaGreatDoor
open Go.RowKit Flo Mk
theorem u8_all {p:UInt8→Prop} (h:∀ n:Fin 256,p (UInt8.ofNat n.val)) (c:UInt8):p c:=by
 have:=h ⟨c.toNat,c.toNat_lt⟩
 simpa using this
set_option maxHeartbeats 4000000 in
theorem digit_any (c:UInt8) (w:World) :
  Calls Tryz.prog 40 #[.int .u8 (c.toNat:Int)] w fun e w'=>e=.returned (.bool (digB c))∧w=w':=by
 have hc:=c.toNat_lt
 have HD:Hid (digB c=(decide (48≤c.toNat) && decide (c.toNat≤57))):=rfl
 go_enter Tryz.func40,Tryz.ntmps40
 go_wp2_with fail
 all_goals go_ret
 all_goals refine ⟨ret2 (congrArg Value.bool ?_),rfl⟩
 ·rw [HD.out,decide_eq_true (p:=48≤c.toNat) (by omega),Bool.true_and]; exact decide_eq_decide.2 (by omega)
 ·rw [HD.out,decide_eq_false (by omega),Bool.false_and]
theorem or_32 (c:UInt8):bits .or .u8 (c.toNat:Int) 32=((c ||| 32).toNat:Int):=by
 refine u8_all (p:=fun c=>bits .or .u8 (c.toNat:Int) 32=((c ||| 32).toNat:Int)) ?_ c
 decide +kernel
theorem runB_or (c:UInt8):runB c=(decide (97≤(c ||| 32).toNat∧(c ||| 32).toNat≤122) || digB c || c == 95):=by
 refine u8_all (p:=fun c=>runB c=(decide (97≤(c ||| 32).toNat∧(c ||| 32).toNat≤122) || digB c || c == 95)) ?_ c
 decide +kernel
set_option maxHeartbeats 4000000 in
theorem runs_any (c:UInt8) (w:World) :
  Calls Tryz.prog 30 #[.int .u8 (c.toNat:Int)] w fun e w'=>e=.returned (.bool (runB c))∧w=w':=by
 have hc:=c.toNat_lt
 have ho:=or_32 c
 have HD:=Lib.hid (runB_or c)
 obtain ⟨d,hd⟩:∃ d,(c ||| 32).toNat=d:=⟨_,rfl⟩
 rw [hd] at ho HD
 have hdl:d < 256:=by rw [← hd]; exact (c ||| 32).toNat_lt
 obtain ⟨g,hg⟩:∃ g,digB c=g:=⟨_,rfl⟩
 have HQ:=Lib.hid (fun w=>digit_any c w)
 rw [hg] at HQ HD
 have h95:((c.toNat:Int) == 95)=(c == 95):=by
  refine u8_all (p:=fun c=>((c.toNat:Int) == 95)=(c == 95)) ?_ c
  decide +kernel
 obtain ⟨k,hk⟩:∃ k,(c == 95)=k:=⟨_,rfl⟩
 rw [hk] at h95 HD
 clear hd hg hk
 go_enter Tryz.func30,Tryz.ntmps30
 go_wp2_with (go_at_call 40; refine (HQ.out _).mono ?_; rintro e w' ⟨rfl,rfl⟩)
 all_goals go_ret
 all_goals refine ⟨ret2 (congrArg Value.bool ?_),rfl⟩
 ·have h1:g=true:=by assumption
  rw [HD.out,h1,Bool.or_true,Bool.true_or]
 ·have h1:g=false:=by simpa using (show ¬ g=true by assumption)
  rw [HD.out,h1,decide_eq_false (by omega),Bool.or_false,Bool.false_or]; simp; omega
 ·rw [HD.out,decide_eq_true (by omega),Bool.true_or,Bool.true_or]
 ·have h1:g=true:=by assumption
  rw [HD.out,h1,Bool.or_true,Bool.true_or]
 ·have h1:g=false:=by simpa using (show ¬ g=true by assumption)
  rw [HD.out,h1,decide_eq_false (by omega),Bool.or_false,Bool.false_or]
def resvS:List ByteArray:=resv.map fun l=>⟨l.toArray⟩
abbrev resText:ByteArray:=⟨#[66,32,76,32,78,32,99,97,115,101,32,99,111,110,106,32,101,108,115,101,32,102,97,105,108,32,102,97,108,115,101,32,105,102,32,105,109,32,105,110,32,108,101,116,32,110,105,108,32,110,111,116,32,111,102,32,114,101,32,115,116,114,105,99,116,32,116,104,101,110,32,116,114,117,101]⟩
theorem res_fields:Lib.fields resText.data.toList=resv:=by decide +kernel
abbrev Spc (w:World):Prop:=Lib.TabIs Tryz.prog w "strings.asciiSpace" .u8 Lib.asciiSpaceTab
theorem words_any (w : World) (hT : Spc w) :
    Calls Tryz.prog 63 #[] w fun e w' => e = .returned (.slice (some ⟨w.heap.size, 0, none⟩) 19 19) ∧ w' = w.alloc (.cells (resvS.map Value.string).toArray 9) := by
  have h := Tryz.strings_Fields resText w (by decide) (by
    intro j b hb
    have hm := List.mem_of_getElem? hb
    exact (show ∀ b ∈ resText.data.toList, b.toNat < 128 by decide +kernel) b hm) hT
  rw [res_fields] at h
  have HQ := Lib.hid h
  clear h hT
  go_enter Tryz.func63, Tryz.ntmps63
  go_wp2_with fail
  refine HQ.out.mono ?_; rintro e w' ⟨rfl, rfl⟩
  go_wp2_with fail
  go_ret
  exact ⟨rfl, rfl⟩
theorem contains_resv (s:ByteArray):Lib.containsS (resvS.take 19) s=decide (s.data.toList ∈ resv):=by
 rw [Bool.eq_iff_iff,Lib.containsS_iff,decide_eq_true_eq]
 show s ∈ resvS↔_
 unfold resvS
 rw [List.mem_map]
 constructor
 ·rintro ⟨l,hl,rfl⟩; simpa using hl
 ·intro h; exact ⟨_,h,by apply ByteArray.ext; simp⟩
theorem reserved_any (s : ByteArray) (w : World) (hT : Spc w) :
    Calls Tryz.prog 42 #[.string s] w fun e w' => e = .returned (.bool (decide (s.data.toList ∈ resv))) ∧ w' = w.alloc (.cells (resvS.map Value.string).toArray 9) := by
  have HQ := Lib.hid (words_any w hT)
  have hz : resvS.length = 19 := by decide
  have hc := Tryz.slices_Contains_string w.heap.size 0 19 19 resvS s (w.alloc (.cells (resvS.map Value.string).toArray 9)) (by rw [hz]; decide) (by decide) (by
    intro j hj
    rw [World.cell?_alloc_at _ _ _ _ rfl]
    simp [List.getD, hj])
  rw [contains_resv] at hc
  have HC := Lib.hid hc
  clear hc hz hT
  go_enter Tryz.func42, Tryz.ntmps42
  go_wp2_with fail
  refine HQ.out.mono ?_; rintro e w' ⟨rfl, rfl⟩
  go_wp2_with fail
  refine HC.out.mono ?_; rintro e w' ⟨rfl, rfl⟩
  go_wp2_with fail
  go_ret
  exact ⟨rfl, rfl⟩
end Go.Proofs.YtgddkgbidhhheaaGreatDoor
