/- Texts joined: Gau Gauq Ref Refb Refc LMakes. -/
import Derived.Test.YtgddkgbidhhheaaGreatDoorKwaa
import Derived.Test.YtgddkgbidhhheaaGreatDoorKwab
import Derived.Deep.QuietTactic
import Derived.BigQuiet
import Derived.Laws.ResultCell
import Derived.Lib.SmallJoins
import Derived.ChangeAlike
import Derived.Deep.RegionWith
import Derived.IntWalk
namespace Go.Proofs.YtgddkgbidhhheaaGreatDoor
open Go.RowKit Flo
set_option maxHeartbeats 400000 in
theorem plain_any (b:Nat) (hb:b < 18446744073709551616) (w:World) :
  Calls Tryz.prog 140 #[.float .f64 b] w fun e w'=>e=.returned (.bool (numOf b).isSome)∧w=w':=by
 have HP:=Lib.hid (plain_cases b hb)
 by_cases h1:geB b=true
 ·have ht:=trunc_ok h1
  have q1:=fun w=>trunc_any b w ht
  have q2:=fun w=>sig_any b hb w
  have Q1:=Lib.hid q1; have Q2:=Lib.hid q2; clear q1 q2 ht
  by_cases h2:leB b=true
  ·cases h3:wholeB b
   ·rw [h1,h2,h3] at HP
    unfold geB NM at h1; unfold leB PM at h2; unfold wholeB at h3
    go_enter Tryz.func140,Tryz.ntmps140
    go_wp2_with (first | (go_at_call 151; refine (Q1.out _).mono ?_; rintro e w' ⟨rfl,rfl⟩) | (go_at_call 152; refine (Q2.out _).mono ?_; rintro e w' ⟨rfl,rfl⟩))
    go_ret
    exact ⟨ret_bool (by rw [HP.out]; rfl),rfl⟩
   ·cases h4:zeroB b
    ·rw [h1,h2,h3,h4] at HP
     unfold geB NM at h1; unfold leB PM at h2; unfold wholeB at h3; unfold zeroB at h4
     have h4:(FloatKind.f64.format.order b 0 != some Ordering.eq)=true:=by show (!(FloatKind.f64.format.order b 0 == some Ordering.eq))=_; rw [h4]; rfl
     go_enter Tryz.func140,Tryz.ntmps140
     go_wp2_with (first | (go_at_call 151; refine (Q1.out _).mono ?_; rintro e w' ⟨rfl,rfl⟩) | (go_at_call 152; refine (Q2.out _).mono ?_; rintro e w' ⟨rfl,rfl⟩))
     go_ret
     exact ⟨ret_bool (by rw [HP.out]; rfl),rfl⟩
    ·rw [h1,h2,h3,h4] at HP
     unfold geB NM at h1; unfold leB PM at h2; unfold wholeB at h3; unfold zeroB at h4
     have h4:(FloatKind.f64.format.order b 0 != some Ordering.eq)=false:=by show (!(FloatKind.f64.format.order b 0 == some Ordering.eq))=_; rw [h4]; rfl
     go_enter Tryz.func140,Tryz.ntmps140
     go_wp2_with (first | (go_at_call 151; refine (Q1.out _).mono ?_; rintro e w' ⟨rfl,rfl⟩) | (go_at_call 152; refine (Q2.out _).mono ?_; rintro e w' ⟨rfl,rfl⟩))
     all_goals go_ret
     all_goals exact ⟨ret_bool (by rw [HP.out]; simp),rfl⟩
  ·have h2:leB b=false:=by simpa using h2
   rw [h1,h2] at HP
   unfold geB NM at h1; unfold leB PM at h2
   go_enter Tryz.func140,Tryz.ntmps140
   go_wp2_with fail
   go_ret
   exact ⟨ret_bool (by rw [HP.out]; rfl),rfl⟩
 ·have h1:geB b=false:=by simpa using h1
  rw [h1] at HP
  unfold geB NM at h1
  go_enter Tryz.func140,Tryz.ntmps140
  go_wp2_with fail
  go_ret
  exact ⟨ret_bool (by rw [HP.out]; rfl),rfl⟩
set_option maxHeartbeats 400000 in
theorem valid_any (a b:Nat) (ha:a < 18446744073709551616) (hb:b < 18446744073709551616) (w:World) :
  Calls Tryz.prog 123 #[.complex .f64 a b] w fun e w'=>e=.returned (.bool (numC a b).isSome)∧w=w':=by
 have q1:=fun w=>plain_any a ha w
 have q2:=fun w=>plain_any b hb w
 have Q1:=Lib.hid q1; have Q2:=Lib.hid q2; clear q1 q2 ha hb
 have HC:=Lib.hid (show (numC a b).isSome=((numOf a).isSome && (numOf b).isSome) by unfold numC; cases numOf a<;>cases numOf b<;>rfl)
 cases h1:(numOf a).isSome
 ·rw [h1] at HC Q1
  go_enter Tryz.func123,Tryz.ntmps123
  go_wp2_with fail
  refine (Q1.out _).mono ?_; rintro e w' ⟨rfl,rfl⟩
  go_wp2_with fail
  go_ret
  exact ⟨ret_bool (by rw [HC.out]; rfl),rfl⟩
 ·rw [h1] at HC Q1
  go_enter Tryz.func123,Tryz.ntmps123
  go_wp2_with fail
  refine (Q1.out _).mono ?_; rintro e w' ⟨rfl,rfl⟩
  go_wp2_with fail
  refine (Q2.out _).mono ?_; rintro e w' ⟨rfl,rfl⟩
  go_wp2_with fail
  go_ret
  exact ⟨ret_bool (by rw [HC.out]; rfl),rfl⟩
theorem ret2 {a b:Value} (h:a=b):Ending.returned a=.returned b:=by rw [h]
set_option maxHeartbeats 400000 in
theorem make_any (x y:Int) (w:World) :
  Calls Tryz.prog 60 #[.int .i64 x,.int .i64 y] w fun e w'=>e=.returned (.tuple #[.complex .f64 (W (gMake x y).1.1) (W (gMake x y).1.2),.int .i64 (gMake x y).2])∧w=w':=by
 cases h:okR x y
 ·have HB:=Lib.hid (make_neg h)
  have hr:¬ ((-16777216≤x∧x≤16777216)∧(-16777216≤y∧y≤16777216)):=fun h'=>by have:=okR_iff.2 h'; rw [h] at this; cases this
  have hc:x < -16777216∨16777216 < x∨y < -16777216∨16777216 < y:=by
   by_cases h1:-16777216≤x<;>by_cases h2:x≤16777216<;>by_cases h3:-16777216≤y<;>by_cases h4:y≤16777216<;>first | omega | exact (hr ⟨⟨h1,h2⟩,h3,h4⟩).elim
  clear hr h
  by_cases h1:x < -16777216
  ·go_enter Tryz.func60,Tryz.ntmps60
   go_wp2_with fail
   go_ret2
   exact ⟨ret2 (by unfold gMake; rw [HB.out]; rw [W0]; rfl),rfl⟩
  by_cases h2:16777216 < x
  ·go_enter Tryz.func60,Tryz.ntmps60
   go_wp2_with fail
   go_ret2
   exact ⟨ret2 (by unfold gMake; rw [HB.out]; rw [W0]; rfl),rfl⟩
  by_cases h3:y < -16777216
  ·go_enter Tryz.func60,Tryz.ntmps60
   go_wp2_with fail
   go_ret2
   exact ⟨ret2 (by unfold gMake; rw [HB.out]; rw [W0]; rfl),rfl⟩
  ·have h4:16777216 < y:=by omega
   clear hc
   go_enter Tryz.func60,Tryz.ntmps60
   go_wp2_with fail
   go_ret2
   exact ⟨ret2 (by unfold gMake; rw [HB.out]; rw [W0]; rfl),rfl⟩
 ·have HB:=Lib.hid (make_pos h)
  obtain ⟨⟨h1,h2⟩,h3,h4⟩:=okR_iff.1 h
  clear h
  go_enter Tryz.func60,Tryz.ntmps60
  go_wp2_with fail
  go_ret2
  exact ⟨ret2 (by unfold gMake; rw [HB.out]; rfl),rfl⟩
def prt (p:Option (Int × Int)):Value:=match p with
 | some (x,y)=>.tuple #[.int .i64 x,.int .i64 y,.int .i64 0]
 | none=>.tuple #[.int .i64 0,.int .i64 0,.int .i64 3]
theorem floatToInt_W {x:Int} (h:-16777216≤x∧x≤16777216):floatToIntVal .f64 (W x) .i64=some x:=by
 unfold floatToIntVal
 rw [show FloatKind.f64.decode (W x)=Ieee.double.read (W x) from rfl,toInt_is (isW_read (by omega) (W_isW x))]
 have hlo:IntKind.i64.min=-9223372036854775808:=by decide
 have hhi:IntKind.i64.max=9223372036854775807:=by decide
 simp only [hlo,hhi]
 rw [if_pos (by omega)]
set_option maxHeartbeats 400000 in
theorem parts_any (a b:Nat) (ha:a < 18446744073709551616) (hb:b < 18446744073709551616) (w:World) :
  Calls Tryz.prog 93 #[.complex .f64 a b] w fun e w'=>e=.returned (prt (numC a b))∧w=w':=by
 have q:=fun w=>valid_any a b ha hb w
 have Q:=Lib.hid q; clear q ha hb
 cases h:numC a b with
 | none=>
  rw [h] at Q
  go_enter Tryz.func93,Tryz.ntmps93
  go_wp2_with fail
  refine (Q.out _).mono ?_; rintro e w' ⟨rfl,rfl⟩
  go_wp2_with fail
  go_ret3
  exact ⟨rfl,rfl⟩
 | some p=>
  rw [h] at Q
  obtain ⟨x,y⟩:=p
  obtain ⟨h1,h2⟩:=numC_some h
  have g1:=numOf_rng h1; have g2:=numOf_rng h2
  obtain rfl:=numOf_eq h1; obtain rfl:=numOf_eq h2
  have r1:=fun w=>run_convert_float_int (P:=Tryz.prog) w 145 3 .f64 .i64 (W x) x (by kernel_rfl) Tryz.underlying3 (floatToInt_W g1)
  have r2:=fun w=>run_convert_float_int (P:=Tryz.prog) w 145 3 .f64 .i64 (W y) y (by kernel_rfl) Tryz.underlying3 (floatToInt_W g2)
  clear h h1 h2
  go_enter Tryz.func93,Tryz.ntmps93
  go_wp2_with fail
  refine (Q.out _).mono ?_; rintro e w' ⟨rfl,rfl⟩
  go_wp2_with fail
  go_ret3
  exact ⟨rfl,rfl⟩
end Go.Proofs.YtgddkgbidhhheaaGreatDoor
namespace Go.Proofs.YtgddkgbidhhheaaGreatDoor
open Go.RowKit Flo
end Go.Proofs.YtgddkgbidhhheaaGreatDoor
namespace Go.Proofs.YtgddkgbidhhheaaGreatDoor
open Go.RowKit Flo
theorem W_lt' (n:Int):W n < 18446744073709551616:=by
 have:=floatOfInt_wf .f64 n
 simp [Lit.wf] at this
 exact this
end Go.Proofs.YtgddkgbidhhheaaGreatDoor
namespace Go.Proofs.YtgddkgbidhhheaaGreatDoor
open Go.RowKit Flo
def ofV (p:Option (Int × Int)):Value:=match p with
 | some (x,y)=>.tuple #[.agg #[.int .i64 x,.int .i64 y],.bool true]
 | none=>.tuple #[.agg #[.int .i64 0,.int .i64 0],.bool false]
end Go.Proofs.YtgddkgbidhhheaaGreatDoor
namespace Go.Proofs.YtgddkgbidhhheaaGreatDoor
open Go.RowKit Flo
end Go.Proofs.YtgddkgbidhhheaaGreatDoor
namespace Go.Proofs.YtgddkgbidhhheaaGreatDoor
open Go.RowKit Flo
theorem parts_none {a b:Nat} (ha:a < 18446744073709551616) (hb:b < 18446744073709551616) (h:numC a b=none) (w:World) :
  Calls Tryz.prog 93 #[.complex .f64 a b] w fun e w'=>e=.returned (.tuple #[.int .i64 0,.int .i64 0,.int .i64 3])∧w=w':=by
 have q:=parts_any a b ha hb w; rw [h] at q; exact q
theorem parts_some {a b:Nat} {x y:Int} (ha:a < 18446744073709551616) (hb:b < 18446744073709551616) (h:numC a b=some (x,y)) (w:World) :
  Calls Tryz.prog 93 #[.complex .f64 a b] w fun e w'=>e=.returned (.tuple #[.int .i64 x,.int .i64 y,.int .i64 0])∧w=w':=by
 have q:=parts_any a b ha hb w; rw [h] at q; exact q
end Go.Proofs.YtgddkgbidhhheaaGreatDoor
