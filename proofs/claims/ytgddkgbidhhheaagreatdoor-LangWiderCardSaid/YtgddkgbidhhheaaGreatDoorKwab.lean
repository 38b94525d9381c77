/- Texts joined: Txp Rp Scan Txt Bys Math. -/
import Derived.Test.YtgddkgbidhhheaaGreatDoorKwaa
import Derived.Lib.AtoiAllCases
import Derived.Lib.Strings
import Derived.WalkKit
import Derived.Laws.AppendOwnNone
import Derived.Test.YtgddkgbidhhheaaGreatDoorRows
import Derived.ProofKit
import Derived.OpenShut
import Derived.Carry
import Derived.Stop.Joined
import Derived.LaidMore
import Derived.SizedLaws
import Derived.WalkLawsBesides
import Derived.Laws.Externs
import Derived.Lib.Hide
namespace Go.Proofs.YtgddkgbidhhheaaGreatDoor
namespace Flo
open Go.Lib
theorem dec_mem:∀ (u:Nat),∀ b ∈ decDigits u,48≤b.toNat∧b.toNat≤57:=by
 intro u
 induction u using Nat.strongRecOn with
 | _ u ih=>
  intro b hb
  rw [decDigits] at hb
  split at hb
  ·rw [List.mem_singleton] at hb
   subst hb
   simp [UInt8.toNat_ofNat']; omega
  ·rcases List.mem_append.1 hb with h | h
   ·exact ih (u / 10) (by omega) b h
   ·rw [List.mem_singleton] at h
    subst h
    simp [UInt8.toNat_ofNat']; omega
theorem dec_ne (u:Nat):decDigits u≠[]:=by
 rw [decDigits]; split<;>simp
theorem parse_app (c:UInt8):∀ (l:List UInt8) (acc a:Nat),parseUint10 acc l=.ok a→parseUint10 acc (l++[c])=parseUint10 a [c]
 | [],acc,a,h=>by
  simp only [parseUint10] at h; injection h with h; subst h; rfl
 | x :: r,acc,a,h=>by
  simp only [parseUint10,List.cons_append] at h ⊢
  split at h
  ·split at h
   ·cases h
   ·split at h
    ·cases h
    ·rename_i h1 h2 h3
     rw [if_pos h1,if_neg h2,if_neg h3]
     exact parse_app c r _ a h
  ·cases h
theorem parse_dec:∀ (u:Nat),u≤16777216→parseUint10 0 (decDigits u)=.ok u:=by
 intro u
 induction u using Nat.strongRecOn with
 | _ u ih=>
  intro hu
  rw [decDigits]
  split
  ·have:(UInt8.ofNat (48 + u)).toNat=48 + u:=by simp [UInt8.toNat_ofNat']; omega
   simp only [parseUint10,this]
   rw [if_pos (by omega),if_neg (by omega),if_neg (by omega)]
   congr 1; omega
  ·have:(UInt8.ofNat (48 + u % 10)).toNat=48 + u % 10:=by simp [UInt8.toNat_ofNat']; omega
   rw [parse_app _ _ _ _ (ih (u / 10) (by omega) (by omega))]
   simp only [parseUint10,this]
   rw [if_pos (by omega),if_neg (by omega),if_neg (by omega)]
   congr 1; omega
theorem mag_dec {u:Nat} (hu:u≤16777216):parseMag (decDigits u)=.ok u:=by
 unfold parseMag; rw [if_neg (dec_ne u)]; exact parse_dec u hu
theorem atoi_itoa {x:Int} (h:-16777216≤x∧x≤16777216):atoiAll (itoa x)=.ok x:=by
 unfold itoa
 split
 ·rw [atoiAll_minus,mag_dec (by omega)]
  show (if 9223372036854775808 < x.natAbs then (NumEnd.range:NumEnd Int) else .ok (-(x.natAbs:Int)))=_
  rw [if_neg (by omega)]
  congr 1; omega
 ·obtain ⟨c,r,hcr⟩:∃ c r,decDigits x.toNat=c :: r:=by
   cases hd:decDigits x.toNat with
   | nil=>exact absurd hd (dec_ne _)
   | cons c r=>exact ⟨c,r,rfl⟩
  have hc:=dec_mem x.toNat c (by rw [hcr]; simp)
  rw [hcr,atoiAll_plain c r (by omega) (by omega),← hcr,mag_dec (by omega)]
  show (if 9223372036854775808≤x.toNat then (NumEnd.range:NumEnd Int) else .ok (x.toNat:Int))=_
  rw [if_neg (by omega)]
  congr 1; omega
theorem itoa_ne (x:Int):itoa x≠[]:=by
 unfold itoa; split
 ·simp
 ·exact dec_ne _
theorem itoa_at (x:Int) (j:Nat) (b:UInt8) (h:(itoa x)[j]? = some b):(48≤b.toNat∧b.toNat≤57)∨(j=0∧b=45):=by
 unfold itoa at h
 split at h
 ·cases j with
  | zero=>simp at h; exact Or.inr ⟨rfl,h.symm⟩
  | succ j=>rw [List.getElem?_cons_succ] at h; exact Or.inl (dec_mem _ b (List.mem_of_getElem? h))
 ·exact Or.inl (dec_mem _ b (List.mem_of_getElem? h))
theorem itoa_pos_head {x:Int} (h:0≤x) (j:Nat) (b:UInt8) (hb:(itoa x)[j]? = some b):48≤b.toNat∧b.toNat≤57:=by
 unfold itoa at hb
 rw [if_neg (by omega)] at hb
 exact dec_mem _ b (List.mem_of_getElem? hb)
theorem itoa_neg_head {x:Int} (h:x < 0):∃ r,itoa x=45 :: r∧∀ b ∈ r,48≤b.toNat∧b.toNat≤57:=by
 unfold itoa
 rw [if_pos h]
 exact ⟨_,rfl,dec_mem _⟩
def NoPM (l:List UInt8) (i:Nat):Prop:=∀ (j:Nat) b,i≤j→l[j]? = some b→b≠43∧b≠45
theorem NoPM.top (l:List UInt8):NoPM l l.length:=fun j b h hb=>by
 rw [List.getElem?_eq_none (by omega)] at hb; cases hb
theorem NoPM.step {l:List UInt8} {i:Nat} {b:UInt8} (h:NoPM l (i + 1)) (hb:l[i]? = some b) (h1:b≠43) (h2:b≠45):NoPM l i:=fun j c hj hc=>by
 rcases Nat.eq_or_lt_of_le hj with rfl | hlt
 ·rw [hb] at hc; cases hc; exact ⟨h1,h2⟩
 ·exact h j c hlt hc
def LastPM (l:List UInt8) (at':Int):Prop:=
 (at'=-1∧NoPM l 0)∨∃ i:Nat,∃ b,at'=i∧l[i]? = some b∧(b=43∨b=45)∧NoPM l (i + 1)
theorem LastPM.at {l:List UInt8} {at':Int} (h:LastPM l at') {i:Nat} {b:UInt8} (hi:l[i]? = some b) (hb:b=43∨b=45) (hn:NoPM l (i + 1)):at'=i:=by
 rcases h with ⟨_,h0⟩ | ⟨j,c,rfl,hj,hc,hnj⟩
 ·rcases hb with rfl | rfl
  ·exact absurd rfl (h0 i _ (by omega) hi).1
  ·exact absurd rfl (h0 i _ (by omega) hi).2
 ·have h1:¬ i + 1≤j:=fun hij=>by rcases hc with rfl | rfl; exact absurd rfl (hn j _ hij hj).1; exact absurd rfl (hn j _ hij hj).2
  have h2:¬ j + 1≤i:=fun hij=>by rcases hb with rfl | rfl; exact absurd rfl (hnj i _ hij hi).1; exact absurd rfl (hnj i _ hij hi).2
  omega
def halves (l:List UInt8) (at':Int):List UInt8 × List UInt8:=
 if hasSuffix l [105]=true then
  if 0 < at' then ((trimSuffix l [105]).take at'.toNat,trimPrefix ((trimSuffix l [105]).drop at'.toNat) [43]) else ([],trimSuffix l [105])
 else (l,[])
def partL (l:List UInt8):Option Int:=if l=[] then some 0 else match atoiAll l with
 | .ok v=>some v
 | _=>none
theorem partL_nil:partL []=some 0:=if_pos rfl
theorem partL_itoa {x:Int} (h:-16777216≤x∧x≤16777216):partL (itoa x)=some x:=by
 unfold partL; rw [if_neg (itoa_ne x),atoi_itoa h]
def gParse (l:List UInt8) (at':Int):Option (Int × Int):=
 match partL (halves l at').1,partL (halves l at').2 with
 | some x,some y=>if okR x y=true∧textL x y=l then some (x,y) else none
 | _,_=>none
theorem suf_app (m:List UInt8):hasSuffix (m++[105]) [105]=true:=by
 unfold hasSuffix; simp [List.isSuffixOf_iff_suffix]
theorem trim_app (m:List UInt8):trimSuffix (m++[105]) [105]=m:=by
 unfold trimSuffix; rw [if_pos (suf_app m)]; simp
theorem suf_itoa (x:Int):hasSuffix (itoa x) [105]=false:=by
 apply Bool.eq_false_iff.2
 intro h
 unfold hasSuffix at h
 rw [List.isSuffixOf_iff_suffix] at h
 obtain ⟨t,ht⟩:=h
 have h1:(itoa x)[t.length]? = some 105:=by rw [← ht]; simp
 rcases itoa_at x _ _ h1 with h2 | ⟨_,h2⟩
 ·exact absurd h2 (by decide)
 ·exact absurd h2 (by decide)
theorem textL_i {x y:Int} (hy:y≠0):textL x y=(if x=0 then itoa y else if 0 < y then itoa x++[43]++itoa y else itoa x++itoa y)++[105]:=by
 unfold textL
 rw [if_neg hy]
 split
 ·rfl
 ·split<;>rfl
theorem at_app {l m:List UInt8} {j:Nat} {b:UInt8} (h:(l++m)[j]? = some b) (hj:l.length≤j):m[j - l.length]? = some b:=by
 rwa [List.getElem?_append_right hj] at h
theorem dig_no {b:UInt8} (h:48≤b.toNat∧b.toNat≤57):b≠43∧b≠45:=by
 constructor
 ·rintro rfl; exact absurd h (by decide)
 ·rintro rfl; exact absurd h (by decide)
theorem halves_text {x y:Int} {at':Int} (hl:LastPM (trimSuffix (textL x y) [105]) at') :
  partL (halves (textL x y) at').1=partL (if x=0∧y≠0 then [] else itoa x)∧partL (halves (textL x y) at').2=partL (if y=0 then [] else itoa y):=by
 by_cases hy:y=0
 ·have e:textL x y=itoa x:=by unfold textL; rw [if_pos hy]
  unfold halves
  rw [e,if_neg (by rw [suf_itoa]; decide),if_pos hy,if_neg (fun h=>h.2 hy)]
  exact ⟨rfl,rfl⟩
 ·rw [textL_i hy,trim_app] at hl
  unfold halves
  rw [textL_i hy,if_pos (suf_app _),trim_app,if_neg hy]
  by_cases hx:x=0
  ·simp only [if_pos hx,if_pos (And.intro hx hy)] at hl ⊢
   have hle:¬ 0 < at':=by
    rcases hl with ⟨rfl,_⟩ | ⟨i,b,rfl,hi,hb,_⟩
    ·omega
    ·rcases itoa_at y i b hi with h2 | ⟨h0,_⟩
     ·rcases hb with rfl | rfl
      ·exact absurd h2 (by decide)
      ·exact absurd h2 (by decide)
     ·omega
   rw [if_neg hle]
   exact ⟨rfl,rfl⟩
  ·have hlen:0 < (itoa x).length:=List.length_pos_iff.2 (itoa_ne x)
   simp only [if_neg hx,if_neg (fun h:x=0∧y≠0=>hx h.1)] at hl ⊢
   by_cases hp:0 < y
   ·simp only [if_pos hp] at hl ⊢
    have hat:at'=((itoa x).length:Int):=by
     refine hl.at (b:=43) (by simp) (Or.inl rfl) ?_
     intro j b hj hb
     rw [List.append_assoc] at hb
     have hb':=at_app hb (by omega)
     obtain ⟨k,hk⟩:∃ k,j - (itoa x).length=k + 1:=⟨j - (itoa x).length - 1,by omega⟩
     rw [hk] at hb'
     exact dig_no (itoa_pos_head (Int.le_of_lt hp) k b (by simpa using hb'))
    subst hat
    rw [if_pos (by omega)]
    refine ⟨by simp,?_⟩
    have:((itoa x++[43]++itoa y).drop ((itoa x).length:Int).toNat)=43 :: itoa y:=by simp
    rw [this]
    unfold trimPrefix hasPrefix
    simp
   ·obtain ⟨r,hr,hd⟩:=itoa_neg_head (x:=y) (by omega)
    simp only [if_neg hp] at hl ⊢
    have hat:at'=((itoa x).length:Int):=by
     refine hl.at (b:=45) (by rw [hr]; simp) (Or.inr rfl) ?_
     intro j b hj hb
     have hb':=at_app hb (by omega)
     obtain ⟨k,hk⟩:∃ k,j - (itoa x).length=k + 1:=⟨j - (itoa x).length - 1,by omega⟩
     rw [hk,hr] at hb'
     exact dig_no (hd b (List.mem_of_getElem? (by simpa using hb':r[k]? = some b)))
    subst hat
    rw [if_pos (by omega)]
    refine ⟨by simp,?_⟩
    have:((itoa x++itoa y).drop ((itoa x).length:Int).toNat)=itoa y:=by simp
    rw [this,hr]
    unfold trimPrefix hasPrefix
    simp
theorem gParse_text {x y:Int} {at':Int} (h:okR x y=true) (hl:LastPM (trimSuffix (textL x y) [105]) at'):gParse (textL x y) at'=some (x,y):=by
 have hr:=okR_iff.1 h
 obtain ⟨e1,e2⟩:=halves_text hl
 have f1:partL (if x=0∧y≠0 then [] else itoa x)=some x:=by
  split
  ·rename_i hc; rw [hc.1]; exact partL_nil
  ·exact partL_itoa hr.1
 have f2:partL (if y=0 then [] else itoa y)=some y:=by
  split
  ·rename_i hc; rw [hc]; exact partL_nil
  ·exact partL_itoa hr.2
 unfold gParse
 rw [e1,e2,f1,f2]
 exact if_pos ⟨h,rfl⟩
theorem gParse_some {l:List UInt8} {at' x y:Int} (h:gParse l at'=some (x,y)):okR x y=true∧textL x y=l:=by
 unfold gParse at h
 split at h
 ·split at h
  ·rename_i hc; cases h; exact hc
  ·cases h
 ·cases h
end Flo
end Go.Proofs.YtgddkgbidhhheaaGreatDoor
namespace Go.Proofs.YtgddkgbidhhheaaGreatDoor
namespace Flo
open Go.Lib
def digB (b:UInt8):Bool:=decide (48≤b.toNat) && decide (b.toNat≤57)
def capStep (n:Nat) (b:UInt8):Nat:=min (10 * n + (b.toNat - 48)) 16777217
def capV (ds:List UInt8):Nat:=ds.foldl capStep 0
def offD (l:List UInt8):Nat:=if l.head? = some 45 then 1 else 0
def runD (l:List UInt8):List UInt8:=(l.drop (offD l)).takeWhile digB
def wholeL (l:List UInt8):Int × Nat:=
 if runD l=[] then (0,0) else (if offD l=1 then -(capV (runD l):Int) else (capV (runD l):Int),offD l + (runD l).length)
theorem capV_snoc (ds:List UInt8) (b:UInt8):capV (ds++[b])=capStep (capV ds) b:=by
 unfold capV; rw [List.foldl_append]; rfl
theorem tw_len (p:UInt8→Bool) (m:List UInt8):(m.takeWhile p).length≤m.length:=by
 induction m with
 | nil=>simp
 | cons c r ih=>rw [List.takeWhile_cons]; split<;>simp; omega
theorem tw_app (p:UInt8→Bool) (t:List UInt8) (ht:∀ b,t.head? = some b→p b=false):∀ (m:List UInt8),(∀ b ∈ m,p b=true)→(m++t).takeWhile p=m
 | [],_=>by
  cases t with
  | nil=>rfl
  | cons b r=>rw [List.nil_append,List.takeWhile_cons,ht b rfl]; rfl
 | c :: r,h=>by
  rw [List.cons_append,List.takeWhile_cons,h c (by simp)]
  simp only [if_true]
  rw [tw_app p t ht r (fun b hb=>h b (by simp [hb]))]
theorem dec_dig (u:Nat):∀ b ∈ decDigits u,digB b=true:=fun b hb=>by
 have:=dec_mem u b hb
 unfold digB; simp; exact this
theorem capV_dec:∀ (u:Nat),u≤16777216→capV (decDigits u)=u:=by
 intro u
 induction u using Nat.strongRecOn with
 | _ u ih=>
  intro hu
  rw [decDigits]
  split
  ·have:(UInt8.ofNat (48 + u)).toNat=48 + u:=by simp [UInt8.toNat_ofNat']; omega
   show min (10 * 0 + ((UInt8.ofNat (48 + u)).toNat - 48)) 16777217=u
   rw [this]; omega
  ·have:(UInt8.ofNat (48 + u % 10)).toNat=48 + u % 10:=by simp [UInt8.toNat_ofNat']; omega
   rw [capV_snoc,ih (u / 10) (by omega) (by omega)]
   unfold capStep
   rw [this]; omega
theorem whole_itoa {x:Int} (hx:-16777216≤x∧x≤16777216) (t:List UInt8) (ht:∀ b,t.head? = some b→digB b=false) :
  wholeL (itoa x++t)=(x,(itoa x).length):=by
 unfold itoa
 by_cases hn:x < 0
 ·rw [if_pos hn]
  have ho:offD (45 :: decDigits x.natAbs++t)=1:=rfl
  have hr:runD (45 :: decDigits x.natAbs++t)=decDigits x.natAbs:=by
   unfold runD; rw [ho]; exact tw_app _ _ ht _ (dec_dig _)
  unfold wholeL
  rw [hr,ho,if_neg (dec_ne _),if_pos rfl,capV_dec _ (by omega)]
  simp only [List.length_cons]
  refine Prod.ext ?_ ?_
  ·show -(x.natAbs:Int)=x; omega
  ·show 1 + (decDigits x.natAbs).length=(decDigits x.natAbs).length + 1; omega
 ·rw [if_neg hn]
  obtain ⟨c,r,hcr⟩:∃ c r,decDigits x.toNat=c :: r:=by
   cases hd:decDigits x.toNat with
   | nil=>exact absurd hd (dec_ne _)
   | cons c r=>exact ⟨c,r,rfl⟩
  have ho:offD (decDigits x.toNat++t)=0:=by
   have:=dec_mem x.toNat c (by rw [hcr]; simp)
   unfold offD
   rw [hcr]
   refine if_neg fun h=>?_
   have e:c=45:=Option.some.inj h
   rw [e] at this; exact absurd this (by decide)
  have hr:runD (decDigits x.toNat++t)=decDigits x.toNat:=by
   unfold runD; rw [ho]; exact tw_app _ _ ht _ (dec_dig _)
  unfold wholeL
  rw [hr,ho,if_neg (dec_ne _),if_neg (by decide),capV_dec _ (by omega)]
  refine Prod.ext ?_ ?_
  ·show (x.toNat:Int)=x; omega
  ·show 0 + (decDigits x.toNat).length=(decDigits x.toNat).length; omega
def refHalves (l:List UInt8):Int × Int:=
 if l.drop (wholeL l).2=[105] then (0,(wholeL l).1)
 else if l.drop (wholeL l).2=[] then ((wholeL l).1,0)
 else ((wholeL l).1,(wholeL (if (l.drop (wholeL l).2).head? = some 43 then (l.drop (wholeL l).2).drop 1 else l.drop (wholeL l).2)).1)
def refParse (l:List UInt8):Option (Int × Int):=
 if (wholeL l).2=0 then none
 else if okR (refHalves l).1 (refHalves l).2=true∧textL (refHalves l).1 (refHalves l).2=l then some (refHalves l) else none
theorem refHalves_text {x y:Int} (h:okR x y=true):(wholeL (textL x y)).2≠0∧refHalves (textL x y)=(x,y):=by
 have hr:=okR_iff.1 h
 have hnl:∀ b,([]:List UInt8).head? = some b→digB b=false:=fun b hb=>by cases hb
 have hi:∀ b,([105]:List UInt8).head? = some b→digB b=false:=fun b hb=>by cases hb; rfl
 have lx:(itoa x).length≠0:=fun e=>itoa_ne x (List.eq_nil_of_length_eq_zero e)
 have ly:(itoa y).length≠0:=fun e=>itoa_ne y (List.eq_nil_of_length_eq_zero e)
 by_cases hy:y=0
 ·have e:textL x y=itoa x++[]:=by unfold textL; rw [if_pos hy,List.append_nil]
  have w:=whole_itoa hr.1 [] hnl
  rw [e]
  refine ⟨by rw [w]; exact lx,?_⟩
  unfold refHalves
  rw [w]
  have d:(itoa x++[]).drop (itoa x).length=[]:=by simp
  simp only [d]
  rw [if_neg (by decide),if_pos trivial,hy]
 ·by_cases hx:x=0
  ·have e:textL x y=itoa y++[105]:=by unfold textL; rw [if_neg hy,if_pos hx]
   have w:=whole_itoa hr.2 [105] hi
   rw [e]
   refine ⟨by rw [w]; exact ly,?_⟩
   unfold refHalves
   rw [w]
   have d:(itoa y++[105]).drop (itoa y).length=[105]:=by simp
   simp only [d]
   rw [if_pos trivial,hx]
  ·by_cases hp:0 < y
   ·have e:textL x y=itoa x++(43 :: (itoa y++[105])):=by unfold textL; rw [if_neg hy,if_neg hx,if_pos hp]; simp
    have w:=whole_itoa hr.1 (43 :: (itoa y++[105])) (fun b hb=>by cases hb; rfl)
    have w2:=whole_itoa hr.2 [105] hi
    rw [e]
    refine ⟨by rw [w]; exact lx,?_⟩
    unfold refHalves
    rw [w]
    have d:(itoa x++(43 :: (itoa y++[105]))).drop (itoa x).length=43 :: (itoa y++[105]):=by simp
    simp only [d]
    rw [if_neg (by simp),if_neg (by simp)]
    show (x,(wholeL (if (43 :: (itoa y++[105])).head? = some 43 then itoa y++[105] else _)).1)=(x,y)
    rw [if_pos List.head?_cons,w2]
   ·obtain ⟨r,hrr,hd⟩:=itoa_neg_head (x:=y) (by omega)
    have e:textL x y=itoa x++(itoa y++[105]):=by unfold textL; rw [if_neg hy,if_neg hx,if_neg hp]; simp
    have w:=whole_itoa hr.1 (itoa y++[105]) (fun b hb=>by rw [hrr] at hb; cases hb; rfl)
    have w2:=whole_itoa hr.2 [105] hi
    rw [e]
    refine ⟨by rw [w]; exact lx,?_⟩
    unfold refHalves
    rw [w]
    have d:(itoa x++(itoa y++[105])).drop (itoa x).length=itoa y++[105]:=by simp
    simp only [d]
    rw [if_neg (by rw [hrr]; simp),if_neg (by simp),if_neg (by rw [hrr]; simp)]
    rw [w2]
theorem refParse_text {x y:Int} (h:okR x y=true):refParse (textL x y)=some (x,y):=by
 obtain ⟨h1,h2⟩:=refHalves_text h
 unfold refParse
 rw [if_neg h1,h2]
 exact if_pos ⟨h,rfl⟩
theorem refParse_some {l:List UInt8} {x y:Int} (h:refParse l=some (x,y)):okR x y=true∧textL x y=l:=by
 unfold refParse at h
 split at h
 ·cases h
 ·split at h
  ·rename_i hc; have:=Option.some.inj h; rw [this] at hc; exact hc
  ·cases h
theorem parse_same {l:List UInt8} {a:Int} (hl:(∀ (j:Nat) b,(trimSuffix l [105])[j]? = some b→b.toNat < 128)→LastPM (trimSuffix l [105]) a) (hasc:∀ x y,textL x y=l→∀ (j:Nat) b,(trimSuffix l [105])[j]? = some b→b.toNat < 128) :
  gParse l a=refParse l:=by
 cases hr:refParse l with
 | some p=>
  obtain ⟨x,y⟩:=p
  obtain ⟨h1,h2⟩:=refParse_some hr
  have q:=hl (hasc x y h2)
  rw [← h2] at q ⊢
  exact gParse_text h1 q
 | none=>
  cases hg:gParse l a with
  | none=>rfl
  | some p=>
   obtain ⟨x,y⟩:=p
   obtain ⟨h1,h2⟩:=gParse_some hg
   rw [← h2,refParse_text h1] at hr
   cases hr
end Flo
end Go.Proofs.YtgddkgbidhhheaaGreatDoor
namespace Go.Proofs.YtgddkgbidhhheaaGreatDoor
namespace Mk
open Flo
def blankB (c:UInt8):Bool:=c == 32 || c == 9 || c == 10 || c == 13
def runB (c:UInt8):Bool:=decide (65≤c.toNat∧c.toNat≤90) || decide (97≤c.toNat∧c.toNat≤122) || digB c || c == 95
def sign1 (c:UInt8):Bool:=c == 40 || c == 41 || c == 44 || c == 58 || c == 59 || c == 61 || c == 43 || c == 45 || c == 42 || c == 47 || c == 60 || c == 124
structure M where
 kind:Nat
 text:List UInt8
 num:Int × Int
 pos:Nat
 deriving DecidableEq
def resv:List (List UInt8):=[[66],[76],[78],[99,97,115,101],[99,111,110,106],[101,108,115,101],[102,97,105,108],[102,97,108,115,101],[105,102],[105,109],[105,110],[108,101,116],[110,105,108],[110,111,116],[111,102],[114,101],[115,116,114,105,99,116],[116,104,101,110],[116,114,117,101]]
def wordM (s:List UInt8) (at':Nat):Option M:=
 if (s.head?.map digB)=some true then (refParse s).map (fun p=>⟨2,s,p,at'⟩)
 else if s ∈ resv then some ⟨1,s,(0,0),at'⟩
 else if s.head? = some 95 then none
 else some ⟨0,s,(0,0),at'⟩
def signL:List UInt8→Nat
 | []=>0
 | c :: r=>if (c == 45 && r.head? == some 62) || (c == 61 && r.head? == some 61) then 2 else if sign1 c then 1 else 0
def one (l:List UInt8) (at':Nat):Option M:=
 if (l.head?.map runB)=some true then wordM (l.takeWhile runB) at'
 else if signL l=0 then none else some ⟨3,l.take (signL l),(0,0),at'⟩
def pre (m:M):Except Nat (List M)→Except Nat (List M)
 | .ok ms=>.ok (m :: ms)
 | .error a=>.error a
def scanF:Nat→List UInt8→Nat→Except Nat (List M)
 | 0,_,at'=>.ok [⟨4,[],(0,0),at'⟩]
 | _ + 1,[],at'=>.ok [⟨4,[],(0,0),at'⟩]
 | k + 1,c :: r,at'=>
  if blankB c then scanF k r (at' + 1)
  else if c=35 then scanF k (r.dropWhile (· != 10)) (at' + 1 + (r.takeWhile (· != 10)).length)
  else match one (c :: r) at' with
   | none=>.error at'
   | some m=>pre m (scanF k ((c :: r).drop m.text.length) (at' + m.text.length))
def scan (l:List UInt8) (at':Nat):Except Nat (List M):=scanF (l.length + 1) l at'
theorem take_len (p:UInt8→Bool) (l:List UInt8):(l.takeWhile p).length≤l.length:=tw_len p l
theorem drop_len (p:UInt8→Bool):∀ (l:List UInt8),(l.dropWhile p).length≤l.length
 | []=>Nat.le_refl _
 | c :: r=>by
  rw [List.dropWhile_cons]
  split
  ·exact Nat.le_succ_of_le (drop_len p r)
  ·exact Nat.le_refl _
theorem wordM_text {s:List UInt8} {at':Nat} {m:M} (h:wordM s at'=some m):m.text=s∧m.pos=at':=by
 unfold wordM at h
 split at h
 ·cases hp:refParse s with
  | none=>rw [hp] at h; cases h
  | some p=>rw [hp] at h; cases h; exact ⟨rfl,rfl⟩
 ·split at h
  ·cases h; exact ⟨rfl,rfl⟩
  ·split at h
   ·cases h
   ·cases h; exact ⟨rfl,rfl⟩
theorem signL_le (l:List UInt8):signL l≤l.length:=by
 cases l with
 | nil=>exact Nat.le_refl _
 | cons c r=>
  show (if _ then 2 else if _ then 1 else 0)≤r.length + 1
  split
  ·rename_i h
   cases r with
   | nil=>simp at h
   | cons d t=>simp
  ·split<;>omega
theorem one_text {l:List UInt8} {at':Nat} {m:M} (h:one l at'=some m):m.text=l.take m.text.length∧m.pos=at'∧0 < m.text.length∧m.text.length≤l.length:=by
 unfold one at h
 split at h
 ·rename_i hr
  obtain ⟨h1,h2⟩:=wordM_text h
  rw [h1]
  refine ⟨?_,h2,?_,take_len _ _⟩
  ·obtain ⟨t,ht⟩:=List.takeWhile_prefix (p:=runB) (l:=l)
   conv=>rhs; rw [← ht]
   conv=>rhs; rw [ht]
   rw [show l.take (l.takeWhile runB).length=(l.takeWhile runB++t).take (l.takeWhile runB).length by rw [ht]]
   simp
  ·cases l with
   | nil=>cases hr
   | cons c r=>
    have:runB c=true:=by simpa using hr
    rw [List.takeWhile_cons,if_pos this]; simp
 ·split at h
  ·cases h
  ·rename_i hs
   cases h
   have:=signL_le l
   show l.take (signL l)=l.take (l.take (signL l)).length∧_∧0 < (l.take (signL l)).length∧(l.take (signL l)).length≤_
   rw [List.length_take,Nat.min_eq_left this]
   exact ⟨rfl,rfl,by omega,this⟩
theorem scanF_eq:∀ (k k':Nat) (l:List UInt8) (at':Nat),l.length < k→l.length < k'→scanF k l at'=scanF k' l at':=by
 intro k
 induction k with
 | zero=>intro k' l at' h; omega
 | succ k ih=>
  intro k' l at' h h'
  cases k' with
  | zero=>omega
  | succ k'=>
   cases l with
   | nil=>rfl
   | cons c r=>
    simp only [List.length_cons] at h h'
    simp only [scanF]
    split
    ·exact ih k' r _ (by omega) (by omega)
    ·split
     ·have:=drop_len (· != 10) r
      exact ih k' _ _ (by omega) (by omega)
     ·cases ho:one (c :: r) at' with
      | none=>rfl
      | some m=>
       obtain ⟨_,_,h3,h4⟩:=one_text ho
       simp only [List.length_cons] at h4
       show pre m _=pre m _
       rw [ih k' _ _ (by rw [List.length_drop]; simp only [List.length_cons]; omega) (by rw [List.length_drop]; simp only [List.length_cons]; omega)]
theorem scan_nil (at':Nat):scan [] at'=.ok [⟨4,[],(0,0),at'⟩]:=rfl
theorem scan_blank {c:UInt8} (h:blankB c=true) (r:List UInt8) (at':Nat):scan (c :: r) at'=scan r (at' + 1):=by
 show scanF (r.length + 1 + 1) (c :: r) at'=scanF (r.length + 1) r (at' + 1)
 simp only [scanF]; rw [if_pos h]
def rem (l:List UInt8) (at':Nat):Except Nat (List M):=scan (l.dropWhile (· != 10)) (at' + (l.takeWhile (· != 10)).length)
theorem rem_nil (at':Nat):rem [] at'=scan [] at':=rfl
theorem rem_nl (r:List UInt8) (at':Nat):rem (10 :: r) at'=scan (10 :: r) at':=rfl
theorem rem_cons {c:UInt8} (h:c≠10) (r:List UInt8) (at':Nat):rem (c :: r) at'=rem r (at' + 1):=by
 unfold rem
 rw [List.dropWhile_cons,List.takeWhile_cons,if_pos (by simpa using h),if_pos (by simpa using h)]
 rw [List.length_cons,show at' + ((r.takeWhile (· != 10)).length + 1)=at' + 1 + (r.takeWhile (· != 10)).length by omega]
theorem scan_hash (r:List UInt8) (at':Nat):scan (35 :: r) at'=rem (35 :: r) at':=by
 rw [rem_cons (by decide)]
 have:=drop_len (· != 10) r
 show scanF (r.length + 1 + 1) (35 :: r) at'=scanF _ _ _
 simp only [scanF]
 rw [if_neg (by decide),if_pos trivial]
 exact scanF_eq _ _ _ _ (by omega) (by omega)
theorem scan_one {c:UInt8} (h:blankB c=false) (h2:c≠35) (r:List UInt8) (at':Nat):scan (c :: r) at' =
  match one (c :: r) at' with
  | none=>.error at'
  | some m=>pre m (scan ((c :: r).drop m.text.length) (at' + m.text.length)):=by
 show scanF (r.length + 1 + 1) (c :: r) at'=_
 simp only [scanF]
 rw [if_neg (by rw [h]; decide),if_neg h2]
 cases ho:one (c :: r) at' with
 | none=>rfl
 | some m=>
  obtain ⟨_,_,h3,h4⟩:=one_text ho
  simp only [List.length_cons] at h4
  show pre m _=pre m _
  unfold scan
  rw [scanF_eq _ _ _ _ (by rw [List.length_drop]; simp only [List.length_cons]; omega) (Nat.lt_succ_self _)]
def fin (acc:List M):Except Nat (List M)→Except Nat (List M)
 | .ok ms=>.ok (acc++ms)
 | .error a=>.error a
theorem fin_nil (r:Except Nat (List M)):fin [] r=r:=by cases r<;>rfl
theorem fin_pre (acc:List M) (m:M) (r:Except Nat (List M)):fin acc (pre m r)=fin (acc++[m]) r:=by
 cases r with
 | error a=>rfl
 | ok ms=>show Except.ok (acc++m :: ms)=Except.ok (acc++[m]++ms); rw [List.append_assoc]; rfl
theorem scan_len (k:Nat):∀ (l:List UInt8) (at':Nat) (ms:List M),l.length < k→scan l at'=.ok ms→ms.length≤l.length + 1:=by
 induction k with
 | zero=>intro l _ _ h; omega
 | succ k ih=>
  intro l at' ms hk h
  cases l with
  | nil=>rw [scan_nil] at h; cases h; simp
  | cons c r=>
   simp only [List.length_cons] at hk ⊢
   by_cases hb:blankB c=true
   ·rw [scan_blank hb] at h; have:=ih r _ _ (by omega) h; omega
   ·by_cases h35:c=35
    ·subst h35
     rw [scan_hash,rem_cons (by decide)] at h
     have h1:=ih _ _ _ (by have:=drop_len (· != 10) r; omega) h
     have:=drop_len (· != 10) r
     omega
    ·rw [scan_one (by simpa using hb) h35] at h
     cases ho:one (c :: r) at' with
     | none=>rw [ho] at h; cases h
     | some m=>
      rw [ho] at h
      obtain ⟨_,_,h3,h4⟩:=one_text ho
      simp only [List.length_cons] at h4
      change pre m _=_ at h
      cases hs:scan ((c :: r).drop m.text.length) (at' + m.text.length) with
      | error a=>rw [hs] at h; cases h
      | ok xs=>
       rw [hs] at h
       cases h
       have:=ih _ _ _ (by rw [List.length_drop]; simp only [List.length_cons]; omega) hs
       rw [List.length_drop] at this
       simp only [List.length_cons] at this ⊢
       omega
end Mk
end Go.Proofs.YtgddkgbidhhheaaGreatDoor
namespace Go.Proofs.YtgddkgbidhhheaaGreatDoor
open Go.RowKit Flo Mk
theorem run_store_complex {P:Program} {w:World} {a:Addr} {m:Mode} (k:FloatKind) (x y:Nat):(store a (.complex k x y) m).run P w=stored P w a (.complex k x y) m:=run_store P w a _ m rfl
attribute [go_sem] run_store_complex
def Txt (w:World) (p:Option Addr) (t:List UInt8):Prop:=t≠[]→∃ b o,p=some ⟨b,o,none⟩∧∀ j x,t[j]? = some x→w.cell? ⟨b,o + j,none⟩=some (.int .u8 (x.toNat:Int))
theorem Txt.nil (w:World) (p:Option Addr):Txt w p []:=fun h=>absurd rfl h
def cellsM (m:M):List Value:=[.int .i64 m.kind,.string ⟨m.text.toArray⟩,.complex .f64 (W m.num.1) (W m.num.2),.int .i64 m.pos]
def aggM (m:M):Value:=.agg #[.int .i64 m.kind,.string ⟨m.text.toArray⟩,.complex .f64 (W m.num.1) (W m.num.2),.int .i64 m.pos]
def rowM (ms:List M):List Value:=ms.flatMap cellsM
theorem rowM_app (a b:List M):rowM (a++b)=rowM a++rowM b:=List.flatMap_append
theorem own_below {w w':World} {B:Nat} {e:TypeId} {k:Nat} {v:Value} {n:Nat} {xs:List Value} (h:w.ownsRow B e k v n xs) (hb:Below w.heap.size w w'):w'.ownsRow B e k v n xs:=by
 refine ⟨h.1,?_⟩
 rcases h.2 with hn | ⟨g,cap,cur,rfl,h1,h2,rest⟩
 ·exact .inl hn
 ·refine .inr ⟨g,cap,cur,rfl,h1,?_,rest⟩
  rw [hb.block g (Array.getElem?_eq_some_iff.1 h2).1]; exact h2
theorem own_base {w:World} {B B':Nat} {e:TypeId} {k:Nat} {v:Value} {n:Nat} {xs:List Value} (h:w.ownsRow B e k v n xs) (hb:B'≤B):w.ownsRow B' e k v n xs:=by
 refine ⟨h.1,?_⟩
 rcases h.2 with hn | ⟨g,cap,cur,rfl,h1,h2,rest⟩
 ·exact .inl hn
 ·exact .inr ⟨g,cap,cur,rfl,Nat.le_trans hb h1,h2,rest⟩
section
variable {P:Program} {w:World}
end
end Go.Proofs.YtgddkgbidhhheaaGreatDoor
namespace Go.Proofs.YtgddkgbidhhheaaGreatDoor
open Go.ChangeShapes Go.WideShapes Go.ChangeAt Go.RowKit
theorem bys_bulk_one {H:Type} (d:DataW H):1≤Rows.uptoBulk d:=by
 cases d with
 | lit l=>cases l<;>simp [Rows.uptoBulk]
 | nil=>simp [Rows.uptoBulk]
 | ptr d=>simp [Rows.uptoBulk]
 | slice elems spare=>simp [Rows.uptoBulk]
 | agg parts=>simp [Rows.uptoBulk]
 | iface t d=>simp [Rows.uptoBulk]
 | map entries=>simp [Rows.uptoBulk]
 | held h=>simp [Rows.uptoBulk]
theorem bys_bulk_len {H:Type} (l:List (DataW H)):l.length≤Rows.uptoBulkAll l:=by
 induction l with
 | nil=>simp [Rows.uptoBulkAll]
 | cons x r ih=>have:=bys_bulk_one x; simp only [Rows.uptoBulkAll,List.length_cons]; omega
theorem bys_byte {x:Int} (h:(Lit.int .u8 x).wf=true):0≤x∧x < 256:=by
 have h1:IntKind.u8.min=0:=rfl
 have h2:IntKind.u8.max=255:=rfl
 simp only [Lit.wf,Bool.and_eq_true,decide_eq_true_eq] at h
 omega
theorem bys_cells:Tryz.prog.cellsOf 5=1:=by kernel_rfl
set_option maxRecDepth 100000 in
theorem open_txt {H:Type} {enc:TypeId × Value→H} {W:World} {base:Nat} {v:Value} {d:DataW H} {p:List MemPlace} (hval:Value.okWide Tryz.prog W .any base 22 v) (h:DataW.Trod enc Tryz.prog W 0 (fun _=>true) true 22 v d p) :
  ∃ (a:Option Addr) (c:Nat) (t:List UInt8),v=.slice a t.length c∧t.length≤c∧Txt W a t∧(a=none→c=0∧t=[])∧t.length≤Rows.uptoBulk d:=by
 obtain ⟨a,len,cap,rfl⟩:=okWide_slice Tryz.underlying22 hval
 obtain ⟨fuel,hf⟩:=h
 rcases open_ints Tryz.underlying22 Tryz.underlying5 bys_cells hf with ⟨hcs,hx⟩ | ⟨a',len',cap',zs,hcs,_,hl,hm,hz,hx,hcell,hwz⟩
 ·simp [Value.cells] at hcs
  obtain ⟨rfl,rfl,rfl⟩:=hcs
  exact ⟨_,_,[],rfl,Nat.le_refl _,Txt.nil _ _,fun _=>⟨rfl,rfl⟩,Nat.zero_le _⟩
 ·simp [Value.cells] at hcs
  obtain ⟨rfl,rfl,rfl⟩:=hcs
  simp only [Prod.mk.injEq] at hx
  obtain ⟨rfl,rfl⟩:=hx
  simp only [if_true] at hz
  have hlen:((zs.take len).map fun n=>UInt8.ofNat n.toNat).length=len:=by simp; omega
  refine ⟨some a',cap,(zs.take len).map fun n=>UInt8.ofNat n.toNat,by rw [hlen],by rw [hlen]; exact hl,fun hne=>?_,fun h=>(by cases h),?_⟩
  ·have hpos:0 < len:=by
    rcases Nat.eq_zero_or_pos len with h0 | h0
    ·exact absurd (List.eq_nil_of_length_eq_zero (by rw [hlen]; exact h0)) hne
    ·exact h0
   obtain ⟨ab,ao,spot⟩:=a'
   have hspot:spot=none:=by simpa [Addr.add] using World.cell?_spot (hcell 0 (by omega))
   subst hspot
   refine ⟨ab,ao,rfl,fun j x hx=>?_⟩
   have hj:j < len:=by have:=(List.getElem?_eq_some_iff.1 hx).1; rw [hlen] at this; exact this
   have hcj:=hcell j (by omega)
   rw [Addr.add_lit] at hcj
   rw [hcj]
   rw [List.getElem?_map,List.getElem?_take,if_pos hj,List.getElem?_eq_getElem (by omega)] at hx
   cases hx
   have hb:=bys_byte (hwz _ (List.getElem_mem (show j < zs.length by omega)))
   rw [List.getD_eq_getElem?_getD,List.getElem?_eq_getElem (by omega)]
   simp only [Option.getD_some]
   congr 2
   rw [UInt8.toNat_ofNat']
   omega
  ·have h1:=bys_bulk_len (lits (H:=H) .u8 (zs.take len))
   have h2:(lits (H:=H) .u8 (zs.take len)).length=len:=by simp [lits]; omega
   rw [hlen]
   simp only [Rows.uptoBulk]
   omega
theorem row_witness {H:Type} {enc:TypeId × Value→H} {C:Checked} {os:Os} {f:FuncId} {fn:Func} {s:OpenSpec} {conds:List PathCond} {apart:Bool} {laid:List (String × DataW Unit)} (modest:Bool) (w0:World) (args:Array Value) (hos:w0.os=os)
  (hsh:(w0.forCall (fun _ _=>0) ⟨#[],args,[]⟩).Shaped C.prog)
  (hok:Input.okWideB C.prog (w0.forCall (fun _ _=>0) ⟨#[],args,[]⟩) f ⟨#[],args,[]⟩=true)
  (hrow:s.preRow enc C.prog fn conds apart laid (w0.forCall (fun _ _=>0) ⟨#[],args,[]⟩).memory args) :
  ∃ (w:World) (tape:Tape) (i:Input),w.os=os∧(w.forCall tape i).Shaped C.prog∧i.vars=[]∧Input.okWide C.prog (w.forCall tape i) .any w.heap.size f i ∧
   s.preRow enc C.prog fn conds apart laid (w.forCall tape i).memory i.args∧({ modest:=modest }:Assume).holds C.prog (lone (Frame.enter C.prog f i.args .normal) [] (w.forCall tape i)):=
 ⟨w0,fun _ _=>0,⟨#[],args,[]⟩,hos,hsh,(Input.okWide_of_okWideB (base:=0) hok).1,(Input.okWide_of_okWideB hok).2,hrow,by
  simp only [Assume.holds]
  exact ⟨by simp,by simp,fun _=>Modest.zero,by simp,by simp⟩⟩
end Go.Proofs.YtgddkgbidhhheaaGreatDoor
namespace Go.Proofs.YtgddkgbidhhheaaGreatDoor
open Go.RowKit Flo
@[go_sem] theorem run_bits (b:Nat) (w:World):(callFunc 164 #[.float .f64 b]).run Tryz.prog w=.ok (.value (.int .u64 b)) w:=by
 rw [run_callFunc_extern Tryz.func164 (e:=Extern.MathFloatBits.float64bits) (by kernel_rfl) (by kernel_rfl) (by kernel_rfl) (by kernel_rfl)]; rfl
@[go_sem] theorem run_frombits (n:Int) (w:World):(callFunc 173 #[.int .u64 n]).run Tryz.prog w=.ok (.value (.float .f64 n.toNat)) w:=by
 rw [run_callFunc_extern Tryz.func173 (e:=Extern.MathFloatBits.float64frombits) (by kernel_rfl) (by kernel_rfl) (by kernel_rfl) (by kernel_rfl)]; rfl
def truncRun (b:Nat) (d:Ieee.Datum):Sem Value:=match d with
  | .nan s t=>
   if FloatKind.f64.format.quiet t=t then pure (.float .f64 b) else do
   let kept ← choose (.extern "math.Floor,Ceil,Trunc,RoundToEven.signallingNaN kept" 2)
   pure (.float .f64 (if kept == 1 then b else FloatKind.f64.encode (.nan s (FloatKind.f64.format.quiet t))))
  | d=>pure (.float .f64 (FloatKind.f64.encode (d.integral .zero)))
theorem run_trunc (b:Nat) (h:(Ieee.double.read b).isNaN=false) (w:World):(callFunc 162 #[.float .f64 b]).run Tryz.prog w=.ok (.value (.float .f64 (truncB b))) w:=by
 rw [run_callFunc_extern Tryz.func162 (e:=Extern.MathFloor.toIntegral "math.archTrunc" .zero) (by kernel_rfl) (by kernel_rfl) (by kernel_rfl) (by kernel_rfl)]
 have e:(Extern.MathFloor.toIntegral "math.archTrunc" .zero #[.float .f64 b]).run Tryz.prog w=.ok (.float .f64 (truncB b)) w:=by
  change Sem.run Tryz.prog (truncRun b (Ieee.double.read b)) w=_
  unfold truncB
  cases hd:Ieee.double.read b with
  | nan s t=>rw [hd] at h; cases h
  | infinity s=>rfl
  | number s m p=>rfl
 rw [e]; rfl
@[go_sem] theorem unary_neg_float (k:FloatKind) (b:Nat):Op.unary .neg (.float k b)=pure (.float k (Op.negFloat k b)):=rfl
theorem ret_bool {a b:Bool} (h:a=b):Ending.returned (.bool a)=.returned (.bool b):=by rw [h]
set_option maxHeartbeats 400000 in
theorem sig_any (b:Nat) (hb:b < 18446744073709551616) (w:World) :
  Calls Tryz.prog 152 #[.float .f64 b] w fun e w'=>e=.returned (.bool (decide (9223372036854775808≤b)))∧w=w':=by
 go_enter Tryz.func152,Tryz.ntmps152
 go_wp2
 go_ret
 exact ⟨ret_bool (by rw [decide_eq_decide]; unfold wrap64; omega),rfl⟩
set_option maxHeartbeats 400000 in
theorem trunc_any (b:Nat) (w:World) (h:(Ieee.double.read b).isNaN=false) :
  Calls Tryz.prog 151 #[.float .f64 b] w fun e w'=>e=.returned (.float .f64 (truncB b))∧w=w':=by
 have hr:=run_trunc b h
 go_enter Tryz.func151,Tryz.ntmps151
 go_wp2
 go_ret
 exact ⟨rfl,rfl⟩
end Go.Proofs.YtgddkgbidhhheaaGreatDoor
