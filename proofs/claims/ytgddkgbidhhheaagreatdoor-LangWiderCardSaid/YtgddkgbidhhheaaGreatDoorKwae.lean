/- Texts joined: Text Last Keep Part Rune LSums LQuos Gl LOrder. -/
import Derived.Test.YtgddkgbidhhheaaGreatDoorKwac
import Derived.Test.YtgddkgbidhhheaaGreatDoorKwaa
import Derived.Test.YtgddkgbidhhheaaGreatDoorKwad
import Derived.Lib.SmallJoins
import Derived.Outline
import Derived.Test.YtgddkgbidhhheaaGreatDoorKwab
import Derived.Shelf.Strings.AsciiSet
import Derived.Lib.IndexAny
import Derived.Deep.RegionHeld3
import Derived.WideLaws
import Derived.Laws.RangeString
import Derived.Laws.Runes
import Derived.WalkMore
import Derived.Lib.TrimU
namespace Go.Proofs.YtgddkgbidhhheaaGreatDoor
open Go.RowKit Flo
theorem gPow:Tryz.prog.globalNamed "internal/strconv.uint64pow10" = some 8:=by kernel_rfl
abbrev Pow (w:World):Prop:=Lib.TabIs Tryz.prog w "internal/strconv.uint64pow10" .u64 Lib.pow10Tab
theorem below_grow (w:World) (k:Nat) (os:Array Obj):Below w.heap.size w (Sort.grow (w.drewN k) os):=by
 refine ⟨rfl,rfl,rfl,?_,fun i hi=>?_⟩
 ·show w.heap.size≤(w.heap++os).size
  rw [Array.size_append]; omega
 ·show (w.heap++os)[i]? = w.heap[i]?
  rw [Array.getElem?_append_left hi]
theorem itoa_any (n:Int) (h:-16777216≤n∧n≤16777216) (w:World) (hT:Pow w) :
  Calls Tryz.prog 94 #[.int .i64 n] w fun e w'=>e=.returned (.string ⟨(Lib.itoa n).toArray⟩)∧Below w.heap.size w w':=by
 refine (Tryz.strconv_Itoa n (by omega) (by omega) w hT).mono ?_
 rintro e w' ⟨rfl,k,os,rfl⟩
 exact ⟨rfl,below_grow w k os⟩
set_option maxHeartbeats 400000 in
theorem text_none {a b:Nat} (ha:a < 18446744073709551616) (hb:b < 18446744073709551616) (h:numC a b=none) (w:World) :
  Calls Tryz.prog 61 #[.complex .f64 a b] w fun e w'=>e=.returned (.tuple #[.string ⟨#[]⟩,.int .i64 3])∧w=w':=by
 have Q:=Lib.hid (fun w=>parts_none ha hb h w); clear ha hb h
 go_enter Tryz.func61,Tryz.ntmps61
 go_wp2_with fail
 refine (Q.out _).mono ?_; rintro e w' ⟨rfl,rfl⟩
 go_wp2_with fail
 go_ret2
 exact ⟨rfl,rfl⟩
set_option maxHeartbeats 400000 in
theorem text_some {a b:Nat} {x y:Int} (ha:a < 18446744073709551616) (hb:b < 18446744073709551616) (h:numC a b=some (x,y)) (w:World) (hT:Pow w) :
  Calls Tryz.prog 61 #[.complex .f64 a b] w fun e w'=>e=.returned (.tuple #[.string ⟨(textL x y).toArray⟩,.int .i64 0])∧Below w.heap.size w w':=by
 have Q:=Lib.hid (fun w=>parts_some ha hb h w)
 have g1:=numOf_rng (numC_some h).1; have g2:=numOf_rng (numC_some h).2
 have l1:=itoa_len g1; have l2:=itoa_len g2
 have QI:=Lib.hid (fun w hT=>itoa_any x g1 w hT); have QJ:=Lib.hid (fun w hT=>itoa_any y g2 w hT)
 have HT:=Lib.hid hT
 clear ha hb h hT g1 g2
 go_enter Tryz.func61,Tryz.ntmps61
 go_wp2_with fail
 refine (Q.out _).mono ?_; rintro e w' ⟨rfl,rfl⟩
 go_wp2_with fail
 refine (QI.out _ HT.out).mono ?_; rintro e w1 ⟨rfl,hb1⟩
 have HB1:=Lib.hid hb1; clear hb1
 have HT1:Hid (Pow w1):=Lib.hid (Joins.tab_stays gPow HT.out HB1.out (Nat.le_refl _))
 go_wp2_with fail
 refine (QJ.out _ HT1.out).mono ?_; rintro e w2 ⟨rfl,hb2⟩
 have HB2:=Lib.hid hb2; clear hb2
 go_wp2_with fail
 all_goals go_ret2
 all_goals refine ⟨ret2 (congrArg (fun s=>Value.tuple #[Value.string s,Value.int .i64 0]) ?_),HB1.out.trans (HB2.out.mono HB1.out.size)⟩
 ·rw [textL,if_pos (by simpa using ‹(y == 0)=true›)]
 ·rw [textL,if_neg (by simpa using ‹(y == 0)=false›),if_pos (by simpa using ‹(x == 0)=true›)]; exact ba_app _ _
 ·rw [textL,if_neg (by simpa using ‹(y == 0)=false›),if_neg (by simpa using ‹(x == 0)=false›),if_pos ‹_›]
  rw [show (⟨#[43]⟩:ByteArray)=⟨([43]:List UInt8).toArray⟩ from rfl,show (⟨#[105]⟩:ByteArray)=⟨([105]:List UInt8).toArray⟩ from rfl,ba_app,ba_app,ba_app]; simp
 ·rw [textL,if_neg (by simpa using ‹(y == 0)=false›),if_neg (by simpa using ‹(x == 0)=false›),if_neg (by omega)]
  rw [show (⟨#[105]⟩:ByteArray)=⟨([105]:List UInt8).toArray⟩ from rfl,ba_app,ba_app]; simp
end Go.Proofs.YtgddkgbidhhheaaGreatDoor
namespace Go.Proofs.YtgddkgbidhhheaaGreatDoor
open Go.RowKit Flo
namespace Flo
theorem pm_contains (x:UInt8):([43,45]:List UInt8).contains x=(x == 43 || x == 45):=by
 simp [List.contains,List.elem]
 cases x == 43<;>cases x == 45<;>rfl
theorem pm_not {x:UInt8} (h:([43,45]:List UInt8).contains x=false):x≠43∧x≠45:=by
 rw [pm_contains] at h; simpa using h
theorem pm_yes {x:UInt8} (h:([43,45]:List UInt8).contains x=true):x=43∨x=45:=by
 rw [pm_contains] at h; simpa using h
end Flo
abbrev pm:ByteArray:=⟨#[43,45]⟩
theorem asc_info:(Tryz.prog.info? 140).map (fun i=>(i.zero,i.size))=some (some (.agg (Array.replicate 256 (.bool false))),256):=by kernel_rfl
theorem pm_asc:∀ (j:Nat) b,pm.data.toList[j]? = some b→b.toNat < 128:=by
 intro j b h
 have:b ∈ ([43,45]:List UInt8):=List.mem_of_getElem? h
 rcases List.mem_cons.1 this with rfl | h2
 ·decide
 ·rcases List.mem_cons.1 h2 with rfl | h3
  ·decide
  ·cases h3
set_option maxHeartbeats 8000000 in
set_option maxRecDepth 1000000 in
theorem last_long (s:ByteArray) (w:World) (h8:8 < s.size) (hs:s.size < 4611686018427387904) :
  Calls Tryz.prog 57 #[.string s,.string pm] w fun e w'=>∃ at',e=.returned (.int .i64 at')∧LastPM s.data.toList at'∧Below w.heap.size w w':=by
 have hv:=(zero_of_info asc_info).1
 have hM:=Tryz.strings_makeASCIISet hv pm w (by decide) pm_asc
 have h8z:decide ((8:Int) < (s.size:Int))=true:=decide_eq_true (by omega)
 have hsc:(storeCells ⟨w.heap.size + 1,0,none⟩ (Lib.setCells pm.data.toList).toList 0).run Tryz.prog ((w.alloc (.cells (Lib.setCells pm.data.toList) 140)).alloc (.cells (Array.replicate 256 (.bool false)) 140))=.ok () ((w.alloc (.cells (Lib.setCells pm.data.toList) 140)).alloc (.cells (Lib.setCells pm.data.toList) 140)):=by
  have:=run_storeCells_new (P:=Tryz.prog) (w.alloc (.cells (Lib.setCells pm.data.toList) 140)) 140 (Array.replicate 256 (.bool false)) (Lib.setCells pm.data.toList) (by rw [Lib.setCells_size]; exact (zero_of_info asc_info).2) (by rw [Lib.setCells_size,Array.size_replicate]) (Lib.setCells_one _)
  simpa using this
 have hcellAt:∀ x:UInt8,((w.alloc (.cells (Lib.setCells pm.data.toList) 140)).alloc (.cells (Lib.setCells pm.data.toList) 140)).cell? ⟨w.heap.size + 1,x.toNat,none⟩=some (.bool (pm.data.toList.contains x)):=fun x=>by
  rw [World.cell?_alloc_at _ _ _ _ (by simp),Lib.setCells_at]
 have HC:=Lib.hid hcellAt
 clear hcellAt
 have hB:Below w.heap.size w ((w.alloc (.cells (Lib.setCells pm.data.toList) 140)).alloc (.cells (Lib.setCells pm.data.toList) 140)):=
  ((Below.refl _ _).alloc (Nat.le_refl _) _).alloc (by simp) _
 have HB:=Lib.hid hB
 clear hB
 have hsz:=Lib.setCells_size pm.data.toList
 go_enter Tryz.func57,Tryz.ntmps57
 go_wp2_with fail
 refine (Tryz.strings_shouldUseASCIISet _ _).mono ?_; rintro e w' ⟨rfl,hw⟩; rw [hw,h8z]
 go_wp2_with fail
 refine hM.mono ?_; rintro e w' ⟨rfl,hw⟩; rw [hw]
 go_wp2_with fail
 clear hM hsc
 go_loopg [8] (s.size + 1) (fun g s8 wx=>g≤s.size + 1∧s8=.int .i64 ((g:Int) - 1 - 1)∧wx=((w.alloc (.cells (Lib.setCells [43,45]) 140)).alloc (.cells (Lib.setCells [43,45]) 140))∧NoPM s.data.toList (g - 1))
 case atStart=>exact ⟨by omega,by first | rfl | simp,rfl,by rw [Nat.add_sub_cancel,Lib.size_eq]; exact NoPM.top _⟩
 case round=>
  obtain ⟨hig,rfl,rfl,hno⟩:=hrel
  have HN:=Lib.hid hno
  clear hno
  by_cases hg1:gk≤1
  ·have hN0:=Lib.hid (show NoPM s.data.toList 0 by have:=HN.out; rwa [show gk - 1=0 by omega] at this)
   have hneg:decide ((gk:Int) - 1 - 1 ≥ 0)=false:=decide_eq_false (by omega)
   have hneg':¬ ((0:Int)≤(gk:Int) - 1 - 1):=by omega
   go_wp2
   go_ret
   exact ⟨-1,rfl,Or.inl ⟨rfl,hN0.out⟩,HB.out⟩
  ·obtain ⟨i,rfl⟩:∃ i,gk=i + 2:=⟨gk - 2,by omega⟩
   rw [show i + 2 - 1=i + 1 by omega] at HN
   have hi:i < s.size:=by omega
   have ei:((i + 2:Nat):Int) - 1 - 1=(i:Int):=by omega
   rw [ei]
   clear ei
   obtain ⟨x,hx⟩:∃ x:UInt8,s[i]'hi=x:=⟨_,rfl⟩
   have hxl:s.data.toList[i]? = some x:=by rw [← hx]; exact Lib.data_getElem? s i hi
   have Hx:=Lib.hid hxl
   clear hxl
   have hcx:=HC.out x
   cases hin:([43,45]:List UInt8).contains x<;>rw [hin] at hcx
   ·go_wp2_with fail
    refine (Tryz.asciiSet_contains _ x _ _ hcx).mono ?_; rintro e w' ⟨rfl,hw⟩; rw [hw]
    go_wp2_with fail
    go_roundg (i + 1)
    case measure=>omega
    case rel=>exact ⟨by omega,by first | rfl | simp,rfl,HN.out.step Hx.out (pm_not hin).1 (pm_not hin).2⟩
   ·go_wp2_with fail
    refine (Tryz.asciiSet_contains _ x _ _ hcx).mono ?_; rintro e w' ⟨rfl,hw⟩; rw [hw]
    go_wp2_with fail
    go_ret
    exact ⟨i,rfl,Or.inr ⟨i,x,rfl,Hx.out,pm_yes hin,HN.out⟩,HB.out⟩
theorem rune_pm (r:Nat) (hr:r < 128) (w:World) :
  Calls Tryz.prog 86 #[.string pm,.int .i32 r] w fun e w'=>e=.returned (.int .i64 (Lib.indexByte [43,45] r.toUInt8))∧w=w':=by
 refine (Tryz.strings_IndexRune_ascii pm r w (by omega) (by omega)).mono ?_
 rintro e w' ⟨rfl,rfl⟩
 exact ⟨rfl,rfl⟩
theorem idx_pm (x:UInt8):decide (0≤Lib.indexByte [43,45] x)=(x == 43 || x == 45):=by
 rw [← Lib.contains_iff_indexByte,pm_contains]
set_option maxHeartbeats 4000000 in
set_option maxRecDepth 1000000 in
theorem last_one (s:ByteArray) (w:World) (h1:s.size=1) (ha:∀ (j:Nat) b,s.data.toList[j]? = some b→b.toNat < 128) :
  Calls Tryz.prog 57 #[.string s,.string pm] w fun e w'=>∃ at',e=.returned (.int .i64 at')∧LastPM s.data.toList at'∧Below w.heap.size w w':=by
 obtain ⟨x,hx⟩:∃ x:UInt8,s[0]'(by omega)=x:=⟨_,rfl⟩
 have hxl:s.data.toList[0]? = some x:=by rw [← hx]; exact Lib.data_getElem? s 0 (by omega)
 have hx128:=ha 0 x hxl
 have HQ:=Lib.hid (fun w=>rune_pm x.toNat hx128 w)
 have HI:=Lib.hid (idx_pm x)
 have hn1:((s.size:Int) == 1)=true:=beq_iff_eq.2 (by omega)
 have hge:¬ ((128:Int)≤(x.toNat:Int)):=by omega
 have htop:NoPM s.data.toList 1:=by have:=NoPM.top s.data.toList; rwa [← Lib.size_eq,h1] at this
 have HT:=Lib.hid htop
 have Hx:=Lib.hid hxl
 clear ha htop hxl
 go_enter Tryz.func57,Tryz.ntmps57
 go_wp2_with fail
 refine (HQ.out _).mono ?_; rintro e w' ⟨rfl,rfl⟩
 go_wp2_with fail
 all_goals go_ret
 ·have h:(x == 43 || x == 45)=true:=by rw [← HI.out]; exact decide_eq_true (by omega)
  exact ⟨0,rfl,Or.inr ⟨0,x,rfl,Hx.out,by simpa using h,HT.out⟩,Below.refl _ _⟩
 ·have h:(x == 43 || x == 45)=false:=by rw [← HI.out]; exact decide_eq_false (by omega)
  have h':x≠43∧x≠45:=by simpa using h
  exact ⟨-1,rfl,Or.inl ⟨rfl,HT.out.step Hx.out h'.1 h'.2⟩,Below.refl _ _⟩
set_option maxRecDepth 1000000 in
theorem decode_last (s : ByteArray) (n : Nat) (x : UInt8) (hn : s.size = n + 1) (hs : s.size ≤ 8) (hx : s.data.toList[n]? = some x) (ha : x.toNat < 128) (w : World) :
    Calls Tryz.prog 90 #[.string s] w fun e w' => e = .returned (.tuple #[.int .i32 x.toNat, .int .i64 1]) ∧ w = w' := by
  have hy1 : s[n]'(by omega) = x := by
    have := Lib.data_getElem? s n (by omega)
    rw [hx] at this; exact (Option.some.inj this).symm
  have haz : (x.toNat : Int) < 128 := by omega
  rw [hn] at hs
  clear hx
  go_enter Tryz.func90, Tryz.ntmps90
  go_wp2
  go_ret2
  exact ⟨rfl, rfl⟩
set_option maxHeartbeats 8000000 in
set_option maxRecDepth 1000000 in
theorem last_short (s:ByteArray) (w:World) (h8:s.size≤8) (h1:s.size≠1) (ha:∀ (j:Nat) b,s.data.toList[j]? = some b→b.toNat < 128) :
  Calls Tryz.prog 57 #[.string s,.string pm] w fun e w'=>∃ at',e=.returned (.int .i64 at')∧LastPM s.data.toList at'∧Below w.heap.size w w':=by
 have h8z:decide ((8:Int) < (s.size:Int))=false:=decide_eq_false (by omega)
 have HA:=Lib.hid ha; clear ha
 have HQ:=Lib.hid rune_pm
 have HD:=Lib.hid decode_last
 have HI:=Lib.hid idx_pm
 have hn1:((s.size:Int) == 1)=false:=beq_eq_false_iff_ne.2 (by omega)
 have h18:=Lib.hid (And.intro h8 h1)
 clear h8 h1
 go_enter Tryz.func57,Tryz.ntmps57
 go_wp2_with fail
 refine (Tryz.strings_shouldUseASCIISet _ _).mono ?_; rintro e w' ⟨rfl,hw⟩; rw [hw,h8z]
 clear hw
 go_wp2_with fail
 go_loopg [13] s.size (fun g s13 wx=>g≤s.size∧s13=.int .i64 (g:Int)∧wx=w∧NoPM s.data.toList g)
 case atStart=>exact ⟨by omega,rfl,rfl,by rw [Lib.size_eq]; exact NoPM.top _⟩
 case round=>
  obtain ⟨hig,rfl,rfl,hno⟩:=hrel
  have HN:=Lib.hid hno
  clear hno
  cases gk with
  | zero=>
   go_wp2
   go_ret
   exact ⟨-1,rfl,Or.inl ⟨rfl,HN.out⟩,Below.refl _ _⟩
  | succ i=>
   have hi:i < s.size:=by omega
   have hi8:i < 8:=by have:=h18.out; omega
   obtain ⟨x,hx⟩:∃ x:UInt8,s[i]'hi=x:=⟨_,rfl⟩
   have hxl:s.data.toList[i]? = some x:=by rw [← hx]; exact Lib.data_getElem? s i hi
   have hx128:=HA.out i x hxl
   have Hx:=Lib.hid hxl
   clear hxl
   go_wp2_with fail
   refine (HD.out (s.extract 0 (i + 1)) i x (by rw [ByteArray.size_extract]; omega) (by rw [ByteArray.size_extract]; have:=h18.out; omega) (by rw [Lib.extract_eq]; simpa [List.getElem?_take] using Hx.out) hx128 _).mono ?_; rintro e w' ⟨rfl,rfl⟩
   go_wp2_with fail
   refine (HQ.out _ hx128 _).mono ?_; rintro e w' ⟨rfl,rfl⟩
   go_wp2_with fail
   ·go_ret
    have h:(x == 43 || x == 45)=true:=by rw [← HI.out]; exact decide_eq_true (by omega)
    exact ⟨i,rfl,Or.inr ⟨i,x,rfl,Hx.out,by simpa using h,HN.out⟩,Below.refl _ _⟩
   ·have h:(x == 43 || x == 45)=false:=by rw [← HI.out]; exact decide_eq_false (by omega)
    have h':x≠43∧x≠45:=by simpa using h
    go_roundg i
    case measure=>omega
    case rel=>exact ⟨by omega,by first | rfl | simp,rfl,HN.out.step Hx.out h'.1 h'.2⟩
theorem last_asc (s:ByteArray) (w:World) (hs:s.size < 4611686018427387904) (ha:∀ (j:Nat) b,s.data.toList[j]? = some b→b.toNat < 128) :
  Calls Tryz.prog 57 #[.string s,.string pm] w fun e w'=>∃ at',e=.returned (.int .i64 at')∧LastPM s.data.toList at'∧Below w.heap.size w w':=by
 by_cases h8:8 < s.size
 ·exact last_long s w h8 hs
 by_cases h1:s.size=1
 ·exact last_one s w h1 ha
 ·exact last_short s w (by omega) h1 ha
end Go.Proofs.YtgddkgbidhhheaaGreatDoor
namespace Go.Proofs.YtgddkgbidhhheaaGreatDoor
open Go.RowKit
def Cells (X:World):List (Nat × Nat × Value)→Prop
 | []=>True
 | (b,o,v) :: l=>X.cell? ⟨b,o,none⟩=some v∧b < X.heap.size∧Cells X l
def Keep (W:World) (l:List (Nat × Nat × Value)) (X:World):Prop:=Cells X l∧Below W.heap.size W X
theorem cells_below {X Y:World} (hb:Below X.heap.size X Y):∀ {l:List (Nat × Nat × Value)},Cells X l→Cells Y l
 | [],_=>trivial
 | (b,o,_) :: _,⟨h1,h2,h3⟩=>⟨(hb.cell (p:=⟨b,o,none⟩) h2).trans h1,Nat.lt_of_lt_of_le h2 hb.size,cells_below hb h3⟩
theorem Keep.below {W X Y:World} {l:List (Nat × Nat × Value)} (hb:Below X.heap.size X Y) (h:Keep W l X):Keep W l Y:=
 ⟨cells_below hb h.1,h.2.trans (hb.mono h.2.size)⟩
theorem Keep.start (W:World):Keep W [] W:=⟨trivial,Below.refl _ _⟩
theorem below_alloc (X:World) (o:Obj):Below X.heap.size X (X.alloc o):=(Below.refl _ _).alloc (Nat.le_refl _) o
theorem Keep.alloc {W X:World} {l:List (Nat × Nat × Value)} (o:Obj) (h:Keep W l X):Keep W l (X.alloc o):=h.below (below_alloc X o)
end Go.Proofs.YtgddkgbidhhheaaGreatDoor
namespace Go.Proofs.YtgddkgbidhhheaaGreatDoor
open Go.RowKit Flo
def IsErr (w:World) (g:Nat):Prop:=∃ ev,w.cell? ⟨g,0,none⟩=some ev∧(ev=.nilIface∨∃ te pe,ev=.iface te pe)
structure Inv (w:World):Prop where
 pow:Pow w
 utf:Lib.Utf8Tabs 3 4 w
 syn:IsErr w 5
 ran:IsErr w 6
theorem cell_on {w w':World} (h:Below w.heap.size w w') {a:Addr} {v:Value} (hc:w.cell? a=some v) (_:w.heap.size≤w.heap.size):w'.cell? a=some v:=
 (h.cell (World.block_lt_of_cell? w a hc)).trans hc
theorem IsErr.below {w w':World} {g:Nat} (h:IsErr w g) (hb:Below w.heap.size w w'):IsErr w' g:=by
 obtain ⟨ev,h1,h2⟩:=h
 exact ⟨ev,cell_on hb h1 (Nat.le_refl _),h2⟩
theorem Inv.below {w w' : World} (h : Inv w) (hb : Below w.heap.size w w') : Inv w' :=
  ⟨Joins.tab_stays gPow h.pow hb (Nat.le_refl _),
   ⟨fun c hc => cell_on hb (h.utf.1 c hc) (Nat.le_refl _), fun i hi => ⟨cell_on hb (h.utf.2 i hi).1 (Nat.le_refl _), cell_on hb (h.utf.2 i hi).2 (Nat.le_refl _)⟩⟩,
   h.syn.below hb, h.ran.below hb⟩
theorem atoi_any (s:ByteArray) (hs:s.size≤281474976710656) (w:World) (hI:Inv w) :
  Calls Tryz.prog 92 #[.string s] w fun e w'=>(∃ n v,e=.returned (.tuple #[.int .i64 n,v])∧((v=.nilIface∧Lib.atoiAll s.data.toList=.ok n)∨((∃ T p,v=.iface T (.pointer p))∧∀ k,Lib.atoiAll s.data.toList≠.ok k)))∧Below w.heap.size w w':=by
 cases h:Lib.atoiAll s.data.toList with
 | ok v=>
  refine (Tryz.strconv_Atoi_ok s (by omega) v h w).mono ?_
  rintro e w' ⟨rfl,hw⟩
  refine ⟨⟨v,_,rfl,Or.inl ⟨rfl,rfl⟩⟩,?_⟩
  rcases hw with rfl | ⟨t,rfl⟩
  ·exact Below.refl _ _
  ·exact Joins.below_bytesWorld _ _ _ _ (Nat.le_refl _)
 | «syntax»=>
  obtain ⟨ev,h1,h2⟩:=hI.syn
  refine (Tryz.strconv_Atoi_syntax s hs h ev w h1 h2).mono ?_
  rintro e w' ⟨N,rfl,_,_,hb⟩
  exact ⟨⟨_,_,rfl,Or.inr ⟨⟨_,_,rfl⟩,fun k hk=>by cases hk⟩⟩,hb⟩
 | range=>
  obtain ⟨ev,h1,h2⟩:=hI.ran
  refine (Tryz.strconv_Atoi_range s hs h ev w h1 h2).mono ?_
  rintro e w' ⟨N,rfl,_,_,hb⟩
  exact ⟨⟨_,_,rfl,Or.inr ⟨⟨_,_,rfl⟩,fun k hk=>by cases hk⟩⟩,hb⟩
theorem err_type:Tryz.prog.underlying 98=some (.interface (Tryz.prog.methodsAt 98)):=by kernel_rfl
theorem gpart_any (s : ByteArray) (hs : s.size ≤ 281474976710656) (w : World) (hI : Inv w) :
    Calls Tryz.prog 59 #[.string s] w fun e w' => ((∃ n, e = .returned (.tuple #[.int .i64 n, .bool false]) ∧ partL s.data.toList = some n) ∨ (∃ n, e = .returned (.tuple #[.int .i64 n, .bool true]) ∧ partL s.data.toList = none)) ∧ Below w.heap.size w w' := by
  have HI := Lib.hid hI
  have HS := Lib.hid hs
  clear hI hs
  by_cases he : s.data.toList = []
  · have hs0 : s = ⟨#[]⟩ := by apply ByteArray.ext; exact Array.toList_inj.1 he
    subst hs0
    go_enter Tryz.func59, Tryz.ntmps59
    go_wp2_with fail
    go_ret2
    exact ⟨Or.inl ⟨0, rfl, partL_nil⟩, Below.refl _ _⟩
  · have hne : s.toList.isEmpty = false := by
      rw [Lib.toList_data]
      cases h : s.data.toList with
      | nil => exact absurd h he
      | cons _ _ => rfl
    have HE := Lib.hid he
    clear he
    go_enter Tryz.func59, Tryz.ntmps59
    go_wp2_with fail
    refine (atoi_any s HS.out w HI.out).mono ?_
    rintro e w' ⟨⟨n, v, rfl, hv⟩, hb⟩
    have HB := Lib.hid hb
    clear hb
    rcases hv with ⟨rfl, ha⟩ | ⟨⟨T, p, rfl⟩, ha⟩
    · have HA := Lib.hid (show partL s.data.toList = some n by unfold partL; rw [if_neg HE.out, ha])
      clear ha
      have hq := fun w => run_neq_nil_nil w 98 err_type
      go_wp2_with fail
      go_quiet (fail)
      go_wp2
      go_ret2
      exact ⟨Or.inl ⟨n, rfl, HA.out⟩, Go.below_drewN HB.out _⟩
    · have HA := Lib.hid (show partL s.data.toList = none by
        unfold partL; rw [if_neg HE.out]
        cases hh : Lib.atoiAll s.data.toList with
        | ok k => exact absurd hh (ha k)
        | «syntax» => rfl
        | range => rfl)
      clear ha
      have hq := fun w => run_neq_held_nil w 98 T (.pointer p) err_type
      go_wp2_with fail
      go_quiet (fail)
      go_wp2
      go_ret2
      exact ⟨Or.inr ⟨n, rfl, HA.out⟩, Go.below_drewN HB.out _⟩
end Go.Proofs.YtgddkgbidhhheaaGreatDoor
namespace Go.Proofs.YtgddkgbidhhheaaGreatDoor
open Go.RowKit Flo
set_option maxHeartbeats 4000000 in
set_option maxRecDepth 1000000 in
theorem rune_err (w:World) :
  Calls Tryz.prog 86 #[.string pm,.int .i32 65533] w fun e w'=>e=.returned (.int .i64 (-1))∧Below w.heap.size w w':=by
 have n0:=fun ty=>run_next_ascii (P:=Tryz.prog) w pm 0 ty (by decide) (by decide)
 have n1:=fun ty=>run_next_ascii (P:=Tryz.prog) w pm 1 ty (by decide) (by decide)
 have n2:=fun ty=>run_next_end (P:=Tryz.prog) w pm 2 ty (by decide)
 go_enter Tryz.func86,Tryz.ntmps86
 go_wp2_with fail
 go_loopg [5,6] 2 (fun g _ _ wx=>∃ i:Nat,i + g=2∧wx=w.iter pm i)
 case atStart=>exact ⟨0,by omega,rfl⟩
 case round=>
  obtain ⟨i,hig,rfl⟩:=hrel
  have hc:(gk=0∧i=2)∨(gk=1∧i=1)∨(gk=2∧i=0):=by omega
  clear hig
  rcases hc with ⟨rfl,rfl⟩ | ⟨rfl,rfl⟩ | ⟨rfl,rfl⟩
  ·go_wp2
   go_ret
   exact ⟨rfl,(Below.refl _ _).alloc (Nat.le_refl _) _⟩
  ·go_wp2
   go_roundg 0
   case measure=>omega
   case rel=>exact ⟨2,by omega,rfl⟩
  ·go_wp2
   go_roundg 1
   case measure=>omega
   case rel=>exact ⟨1,by omega,rfl⟩
set_option maxHeartbeats 4000000 in
set_option maxRecDepth 1000000 in
theorem rune_hi (r:Nat) (hr:128≤r) (w:World) :
  Calls Tryz.prog 86 #[.string pm,.int .i32 r] w fun e w'=>e=.returned (.int .i64 (-1))∧Below w.heap.size w w':=by
 by_cases he:r=65533
 ·subst he; exact rune_err w
 have hne:((r:Int) == 65533)=false:=beq_eq_false_iff_ne.2 (by omega)
 have hlt:¬ ((r:Int) < 128):=by omega
 have h0:(0:Int)≤(r:Int):=by omega
 have HV:=Lib.hid (fun w=>Tryz.utf8_ValidRune (r:Int) w)
 have HR:=Lib.hid hr
 clear hr he
 cases hv:Lib.validRune (r:Int)<;>rw [hv] at HV
 ·clear hv
  go_enter Tryz.func86,Tryz.ntmps86
  go_wp2_with fail
  refine (HV.out _).mono ?_; rintro e w' ⟨rfl,rfl⟩
  go_wp2_with fail
  go_ret
  exact ⟨rfl,Below.refl _ _⟩
 ·have hval:Utf8.valid (r:Int)=true:=by
   have:=hv; unfold Lib.validRune at this; unfold Utf8.valid; simp at this ⊢; omega
  obtain ⟨e1,e2,e3⟩:=encode_facts (r:Int) hval (by have:=HR.out; omega)
  obtain ⟨E,hE⟩:∃ E,Utf8.encode (r:Int)=E:=⟨_,rfl⟩
  rw [hE] at e1 e2 e3
  have hconv:∀ w:World,(convert 21 9 (.int .i32 (r:Int))).run Tryz.prog w=.ok (.string E) w:=fun w=>by rw [← hE]; exact run_convert_int_string w _ _ _ _ (by kernel_rfl) Tryz.underlying9
  clear hE
  clear hv hval
  have hcs:E.size=2∨E.size=3∨E.size=4:=by omega
  clear e1 e2
  rcases hcs with hs | hs | hs
  ·have hx:=e3 (by omega)
   obtain ⟨x,hxe⟩:∃ x:UInt8,E[E.size - 1]'(by omega)=x:=⟨_,rfl⟩
   rw [hxe] at hx
   have hy:E[1]'(by omega)=x:=by simpa [hs] using hxe
   clear e3 hxe
   have hq:((45:Int) == (x.toNat:Int))=false:=beq_eq_false_iff_ne.2 (by omega)
   go_enter Tryz.func86,Tryz.ntmps86
   go_wp2_with fail
   refine (HV.out _).mono ?_; rintro e w' ⟨rfl,rfl⟩
   go_wp2_with fail
   go_step3
   go_wp2_with fail
   go_loop [9] (fun s=>s=.int .i64 1) (fun _=>0)
   case atStart=>first | rfl | simp [hs]
   case round=>
    subst hrel
    go_wp2_with fail
    have i1:∀ w:World,(Instr.index 9 (.string pm) (.int .i64 1)).run Tryz.prog w=.ok (.int .u8 45) w:=fun w=>by
     rw [run_index_string w _ _ _ _ Tryz.underlying9]; rfl
    have i2:∀ w:World,(Instr.index 9 (.string E) (.int .i64 1)).run Tryz.prog w=.ok (.int .u8 x.toNat) w:=fun w=>by
     rw [run_index_string w _ _ _ _ Tryz.underlying9,dif_pos ⟨by omega,by omega⟩]; simp [hy]
    go_step3
    go_wp2_with fail
    go_quiet (fail)
    go_wp2_with fail
    have HB:=Lib.hid (Go.below_drewN (Below.refl w'.heap.size w') nq)
    generalize w'.drewN nq=W1 at HB ⊢
    have hw2:IntKind.i64.wrap 2=2:=by decide
    go_quiet (first | (go_at_call 114; refine Calls.quiet_of_same (Tryz.strings_IndexByte _ _ _)))
    have HB2:=Lib.hid (Go.below_drewN HB.out nq)
    go_wp2_with fail
    rw [Exit.noGoto_ret]
    go_wp2
    rw [Exit.noGoto_ret]
    try go_wp2
    go_ret
    exact ⟨rfl,HB2.out⟩
  ·clear e3
   go_enter Tryz.func86,Tryz.ntmps86
   go_wp2_with fail
   refine (HV.out _).mono ?_; rintro e w' ⟨rfl,rfl⟩
   go_wp2_with fail
   go_step3
   go_wp2_with fail
   go_loop [9] (fun s=>s=.int .i64 2) (fun _=>0)
   case atStart=>first | rfl | simp [hs]
   case round=>
    subst hrel
    go_wp2_with fail
    go_ret
    exact ⟨rfl,Below.refl _ _⟩
  ·clear e3
   go_enter Tryz.func86,Tryz.ntmps86
   go_wp2_with fail
   refine (HV.out _).mono ?_; rintro e w' ⟨rfl,rfl⟩
   go_wp2_with fail
   go_step3
   go_wp2_with fail
   go_loop [9] (fun s=>s=.int .i64 3) (fun _=>0)
   case atStart=>first | rfl | simp [hs]
   case round=>
    subst hrel
    go_wp2_with fail
    go_ret
    exact ⟨rfl,Below.refl _ _⟩
theorem rune_all (r:Nat) (w:World) :
  Calls Tryz.prog 86 #[.string pm,.int .i32 r] w fun e w'=>(∃ o,e=.returned (.int .i64 o)∧(r < 128→o=Lib.indexByte [43,45] r.toUInt8))∧Below w.heap.size w w':=by
 by_cases h:r < 128
 ·refine (rune_pm r h w).mono ?_
  rintro e w' ⟨rfl,rfl⟩
  exact ⟨⟨_,rfl,fun _=>rfl⟩,Below.refl _ _⟩
 ·refine (rune_hi r (by omega) w).mono ?_
  rintro e w' ⟨rfl,hb⟩
  exact ⟨⟨_,rfl,fun h'=>absurd h' h⟩,hb⟩
theorem last_width (l:List UInt8) (h:l≠[]):1≤(Lib.decodeLastL l).2∧(Lib.decodeLastL l).2≤l.length:=by
 have:=Lib.decodeLastL_width l (List.length_pos_iff.2 h)
 exact this
def Some1 (l:List UInt8) (a:Int):Prop:=a=-1∨∃ i:Nat,a=i∧i < l.length
set_option maxHeartbeats 4000000 in
set_option maxRecDepth 1000000 in
theorem last_one_hi (s:ByteArray) (w:World) (h1:s.size=1) (x:UInt8) (hx:s[0]'(by omega)=x) (h128:128≤x.toNat) :
  Calls Tryz.prog 57 #[.string s,.string pm] w fun e w'=>e=.returned (.int .i64 (-1))∧Below w.heap.size w w':=by
 have HQ:=Lib.hid rune_err
 have hn1:((s.size:Int) == 1)=true:=beq_iff_eq.2 (by omega)
 have hge:(128:Int)≤(x.toNat:Int):=by omega
 have hlt:(x.toNat:Int) < 256:=by have:=x.toNat_lt; omega
 clear h128
 go_enter Tryz.func57,Tryz.ntmps57
 go_wp2_with fail
 refine (HQ.out _).mono ?_; rintro e w1 ⟨rfl,hb⟩
 have HB:=Lib.hid hb; clear hb
 go_wp2_with fail
 go_ret
 exact ⟨rfl,HB.out⟩
set_option maxHeartbeats 8000000 in
set_option maxRecDepth 1000000 in
theorem last_weak (s:ByteArray) (w:World) (hI:Inv w) (h8:s.size≤8) (h1:s.size≠1) :
  Calls Tryz.prog 57 #[.string s,.string pm] w fun e w'=>∃ a,e=.returned (.int .i64 a)∧Some1 s.data.toList a∧Below w.heap.size w w':=by
 have h8z:decide ((8:Int) < (s.size:Int))=false:=decide_eq_false (by omega)
 have HQ:=Lib.hid rune_all
 have hn1:((s.size:Int) == 1)=false:=beq_eq_false_iff_ne.2 (by omega)
 have h18:=Lib.hid (And.intro h8 h1)
 have HI:=Lib.hid hI
 have HL:=Lib.hid (Lib.size_eq s)
 clear h8 h1 hI
 go_enter Tryz.func57,Tryz.ntmps57
 go_wp2_with fail
 refine (Tryz.strings_shouldUseASCIISet _ _).mono ?_; rintro e w' ⟨rfl,hw⟩; rw [hw,h8z]
 clear hw
 go_wp2_with fail
 go_loopg [13] s.size (fun g s13 wx=>∃ i:Nat,i≤g∧g≤s.size∧s13=.int .i64 (i:Int)∧Below w.heap.size w wx)
 case atStart=>exact ⟨s.size,by omega,by omega,rfl,Below.refl _ _⟩
 case round=>
  obtain ⟨i,hig,hgs,rfl,hb⟩:=hrel
  have HB:=Lib.hid hb
  clear hb
  rcases Nat.eq_zero_or_pos i with rfl | hpos
  ·go_wp2
   go_ret
   exact ⟨-1,rfl,Or.inl rfl,HB.out⟩
  ·have hsz:(s.extract 0 i).size=i:=by rw [ByteArray.size_extract]; omega
   have hln:(s.extract 0 i).data.toList.length=i:=by rw [← Lib.size_eq]; exact hsz
   have hwd:=last_width (s.extract 0 i).data.toList (fun h=>by rw [h] at hln; simp at hln; omega)
   rw [hln] at hwd
   have HD:=Lib.hid (fun w' hT=>Tryz.utf8_DecodeLastRuneInString (s.extract 0 i) w' (by rw [hsz]; have:=h18.out; omega) hT)
   generalize Lib.decodeLastL (s.extract 0 i).data.toList=rk at HD hwd
   obtain ⟨r,k⟩:=rk
   have hk:1≤k∧k≤i:=hwd
   clear hwd hsz hln
   obtain ⟨j,rfl⟩:∃ j:Nat,i=k + j:=⟨i - k,by omega⟩
   have hjb:j < 8:=by have:=h18.out; omega
   have hkb:k≤8:=by have:=h18.out; omega
   have hks:k + j≤s.size:=by omega
   have hpos':0 < k + j:=hpos
   have HG:=Lib.hid (And.intro hig (And.intro hgs hk))
   clear hig hgs hk hpos
   go_wp2_with fail
   refine (HD.out _ (HI.out.below HB.out).utf).mono ?_; rintro e w1 ⟨rfl,hb1⟩
   have HB1:=Lib.hid (HB.out.trans (hb1.mono HB.out.size)); clear hb1
   go_wp2_with fail
   refine (HQ.out _ _).mono ?_; rintro e w2 ⟨⟨o,rfl,ho⟩,hb2⟩
   have HB2:=Lib.hid (HB1.out.trans (hb2.mono HB1.out.size)); clear hb2 ho
   by_cases hoo:0≤o
   ·go_wp2_with fail
    go_ret
    exact ⟨(k:Int) + (j:Int) - (k:Int),rfl,Or.inr ⟨j,by omega,by have:=HG.out; have:=HL.out; omega⟩,HB2.out⟩
   ·go_wp2_with fail
    have hg2:=HG.out
    go_roundg (gk - 1)
    case measure=>omega
    case rel=>exact ⟨j,by omega,by omega,congrArg (Value.int .i64) (by omega),HB2.out⟩
theorem last_any (s : ByteArray) (w : World) (hI : Inv w) (hs : s.size < 4611686018427387904) :
    Calls Tryz.prog 57 #[.string s, .string pm] w fun e w' => ∃ a, e = .returned (.int .i64 a) ∧ (((∀ (j : Nat) b, s.data.toList[j]? = some b → b.toNat < 128) → LastPM s.data.toList a) ∧ Some1 s.data.toList a) ∧ Below w.heap.size w w' := by
  have bnd : ∀ a, LastPM s.data.toList a → Some1 s.data.toList a := fun a h => by
    rcases h with ⟨h, _⟩ | ⟨i, b, h, hi, _, _⟩
    · exact Or.inl h
    · exact Or.inr ⟨i, h, (List.getElem?_eq_some_iff.1 hi).1⟩
  by_cases h8 : 8 < s.size
  · refine (last_long s w h8 hs).mono ?_
    rintro e w' ⟨a, rfl, ha, hb⟩
    exact ⟨a, rfl, ⟨fun _ => ha, bnd a ha⟩, hb⟩
  by_cases ha : ∀ (j : Nat) b, s.data.toList[j]? = some b → b.toNat < 128
  · refine (last_asc s w hs ha).mono ?_
    rintro e w' ⟨a, rfl, ha, hb⟩
    exact ⟨a, rfl, ⟨fun _ => ha, bnd a ha⟩, hb⟩
  by_cases h1 : s.size = 1
  · have hx : 128 ≤ (s[0]'(by omega)).toNat := by
      refine Nat.le_of_not_lt fun hlt => ha fun j b hb => ?_
      have hj : j < s.data.toList.length := (List.getElem?_eq_some_iff.1 hb).1
      rw [← Lib.size_eq, h1] at hj
      obtain rfl : j = 0 := by omega
      rw [Lib.data_getElem? s 0 (by omega)] at hb
      rw [← Option.some.inj hb]; exact hlt
    refine (last_one_hi s w h1 _ rfl hx).mono ?_
    rintro e w' ⟨rfl, hb⟩
    exact ⟨-1, rfl, ⟨fun h => absurd h ha, Or.inl rfl⟩, hb⟩
  · refine (last_weak s w hI (by omega) h1).mono ?_
    rintro e w' ⟨a, rfl, h, hb⟩
    exact ⟨a, rfl, ⟨fun h => absurd h ha, h⟩, hb⟩
end Go.Proofs.YtgddkgbidhhheaaGreatDoor
namespace Go.Proofs.YtgddkgbidhhheaaGreatDoor
open Go.RowKit Flo
end Go.Proofs.YtgddkgbidhhheaaGreatDoor
namespace Go.Proofs.YtgddkgbidhhheaaGreatDoor
open Go.RowKit Flo
end Go.Proofs.YtgddkgbidhhheaaGreatDoor
namespace Go.Proofs.YtgddkgbidhhheaaGreatDoor
namespace Flo
end Flo
end Go.Proofs.YtgddkgbidhhheaaGreatDoor
namespace Go.Proofs.YtgddkgbidhhheaaGreatDoor
open Go.RowKit Flo
theorem numC_R {a b:Int} (h:okR a b=true):numC (W a) (W b)=some (a,b):=numC_W (okR_iff.1 h).1 (okR_iff.1 h).2
end Go.Proofs.YtgddkgbidhhheaaGreatDoor
