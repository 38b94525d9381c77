/- Texts joined: Llw Olm. -/
import Derived.Test.YtgddkgbidhhheaaGreatDoorKwbc
import Derived.Test.YtgddkgbidhhheaaGreatDoorKwaa
import Derived.Test.YtgddkgbidhhheaaGreatDoorKwax
set_option linter.unusedVariables false
set_option linter.unusedSimpArgs false
set_option maxRecDepth 100000
namespace Go.Proofs.YtgddkgbidhhheaaGreatDoor
open Go.RowKit Flo Mk Pg Ab
def Fits (l:Lim) (fs:List Pg.Fd):Prop:=(nFs fs=0∨(nFs fs:Int)≤l.nest)∧(aFs fs=0∨(aFs fs:Int)≤l.arity)∧(fs.length=0∨(fs.length:Int)≤l.funcs)
theorem fits_self {l0:Lim} {ms rest:List M} {fs:List Pg.Fd} (h:P l0 (.prog [] ms) (.ok [.fs fs] rest)):Fits l0 fs:=by
 rcases tri_prog h l0 with ⟨_,a,b,c⟩ | ⟨p,h2,_⟩ | ⟨p,h2,_⟩
 ·exact ⟨a,b,c⟩
 ·have:=det h h2; cases this
 ·have:=det h h2; cases this
section
variable {t:List UInt8} {L:Lim} {x:AV} {l0:Lim} {ms rest:List M} {fs:List Pg.Fd}
theorem parse_one {r:Res} (hs:scan t 0=.ok ms) (ht:(t.length:Int)≤limT L) (hP:P { L with text:=limT L } (.prog [] ms) r) (hx:ParseR t L x) :
  (∀ gs rest,r=.ok [.fs gs] rest→x=.tup [.agg [.sl gs.length (fdsA gs)],.agg [iv 0,iv 0]])∧∀ w p,r=.bad w p→x=.tup [.agg [.sl 0 []],.agg [iv w,iv p]]:=by
 rcases hx with ⟨h,rfl⟩ | ⟨hl,⟨a,h,rfl⟩ | ⟨ms',h,⟨gs,a,hQ,rfl⟩ | ⟨w,p,_,hQ,rfl⟩⟩⟩
 ·omega
 ·rw [hs] at h; cases h
 ·rw [hs] at h; cases h
  have:=det hP hQ
  subst this
  exact ⟨fun gs' rest' e=>(by cases e; rfl),fun w p e=>(by cases e)⟩
 ·rw [hs] at h; cases h
  have:=det hP hQ
  subst this
  exact ⟨fun gs' rest' e=>(by cases e),fun w p e=>(by cases e; rfl)⟩
theorem parse_fit (hs:scan t 0=.ok ms) (h0:P l0 (.prog [] ms) (.ok [.fs fs] rest)) (ht:(t.length:Int)≤limT L) (hf:Fits L fs) (hx:ParseR t L x):x=.tup [.agg [.sl fs.length (fdsA fs)],.agg [iv 0,iv 0]]:=by
 rcases tri_prog h0 { L with text:=limT L } with ⟨h,_⟩ | ⟨p,h,a⟩ | ⟨p,h,a⟩
 ·exact (parse_one hs ht h hx).1 _ _ rfl
 ·exact absurd hf.1 a
 ·exact absurd hf.2 a
theorem parse_22 (hs:scan t 0=.ok ms) (h0:P l0 (.prog [] ms) (.ok [.fs fs] rest)) (ht:(t.length:Int)≤limT L) (hn:nFs fs=0∨(nFs fs:Int)≤L.nest) (hf:¬ Fits L fs) (hx:ParseR t L x):∃ p,x=.tup [.agg [.sl 0 []],.agg [iv 22,iv p]]:=by
 rcases tri_prog h0 { L with text:=limT L } with ⟨h,a,b,c⟩ | ⟨p,h,a⟩ | ⟨p,h,a⟩
 ·exact absurd ⟨a,b,c⟩ hf
 ·exact absurd hn a
 ·exact ⟨p,(parse_one hs ht h hx).2 _ _ rfl⟩
theorem parse_23 (hs:scan t 0=.ok ms) (h0:P l0 (.prog [] ms) (.ok [.fs fs] rest)) (ht:(t.length:Int)≤limT L) (hf:(aFs fs=0∨(aFs fs:Int)≤L.arity)∧(fs.length=0∨(fs.length:Int)≤L.funcs)) (hn:¬ (nFs fs=0∨(nFs fs:Int)≤L.nest)) (hx:ParseR t L x):∃ p,x=.tup [.agg [.sl 0 []],.agg [iv 23,iv p]]:=by
 rcases tri_prog h0 { L with text:=limT L } with ⟨h,a,b,c⟩ | ⟨p,h,a⟩ | ⟨p,h,a⟩
 ·exact absurd a hn
 ·exact ⟨p,(parse_one hs ht h hx).2 _ _ rfl⟩
 ·exact absurd hf a
theorem parse_big (ht:limT L < t.length) (hx:ParseR t L x):x=.tup [.agg [.sl 0 []],.agg [iv 22,iv (limT L)]]:=by
 rcases hx with ⟨h,rfl⟩ | ⟨hl,_⟩
 ·rfl
 ·omega
theorem parse_cases (hx:ParseR t L x):(∃ fs ms rest,scan t 0=.ok ms∧P { L with text:=limT L } (.prog [] ms) (.ok [.fs fs] rest)∧(t.length:Int)≤limT L∧x=.tup [.agg [.sl fs.length (fdsA fs)],.agg [iv 0,iv 0]])∨∃ w p:Int,w≠0∧x=.tup [.agg [.sl 0 []],.agg [iv w,iv p]]:=by
 rcases hx with ⟨h,rfl⟩ | ⟨hl,⟨a,h,rfl⟩ | ⟨ms',h,⟨gs,a,hQ,rfl⟩ | ⟨w,p,hw,hQ,rfl⟩⟩⟩
 ·exact .inr ⟨22,_,by decide,rfl⟩
 ·exact .inr ⟨20,_,by decide,rfl⟩
 ·exact .inl ⟨gs,ms',_,h,hQ,hl,rfl⟩
 ·exact .inr ⟨w,p,hw,rfl⟩
end
theorem aFs_le {k:Nat}:∀ {fs:List Pg.Fd},(∀ f ∈ fs,f.params.length≤k)→aFs fs≤k
 | [],_=>Nat.zero_le _
 | f :: r,h=>by rw [aFs]; have:=h f (by simp); have:=aFs_le (fs:=r) (fun g hg=>h g (by simp [hg])); omega
theorem nFs_le {k:Nat}:∀ {fs:List Pg.Fd},(∀ f ∈ fs,nX f.body≤k)→nFs fs≤k
 | [],_=>Nat.zero_le _
 | f :: r,h=>by rw [nFs]; have:=h f (by simp); have:=nFs_le (fs:=r) (fun g hg=>h g (by simp [hg])); omega
structure WdI (t:List UInt8) (fs:List Pg.Fd) (H0 H1:List Ob) (g:Nat) (F:Fr) (H:List Ob):Prop where
 k:∃ j:Nat,j≤fs.length∧g=fs.length - j∧F 13=some (iv j)∧H=H0++.var [iv t.length,iv fs.length,iv (aFs (fs.take j)),iv (nFs (fs.take j))] :: H1
 f0:F 0=some (.sl t.length (t.map byA))
 f7:F 7=some (.ptr 2 0)
 f10:F 10=some (.ptr 5 0)
 f11:F 11=some (.ptr 6 0)
 f12:F 12=some (.ptr 7 0)
set_option maxHeartbeats 4000000 in
theorem mwider_ap (t:List UInt8) (L m:Lim):AP Tryz.prog GmL 6 [.sl t.length (t.map byA),.agg [iv L.text,iv L.funcs,iv L.arity,iv L.nest],.agg [iv m.text,iv m.funcs,iv m.arity,iv m.nest]] (fun x=>x=bv true):=by
 have hmx:∀ (a b:Int) (i:Decidable (a < b)),@ite Int (a < b) i b a=max a b:=fun a b i=>by split<;>omega
 have hmn:∀ (a b:Nat) (i:Decidable (a < b)),@ite Int (a < b) i (b:Int) (a:Int)=((max a b:Nat):Int):=fun a b i=>by split<;>omega
 refine AP.go hmix F_mwider (by simp) ?_
 simp -implicitDefEqProofs [c_mwider]
 refine SC.frz (by simp) [] (by simp) (by simpa using mawake_ap) (by simp) ?_ (a:=.mk)
 rintro x rfl
 simp -implicitDefEqProofs
 refine SC.frz (by simp) [.sl t.length (t.map byA),.agg [iv L.text,iv L.funcs,iv L.arity,iv L.nest]] (by simp) (post:=ParseR t L) (by simpa using lparse_ap t L) (by simp) ?_ (a:=.mk)
 rintro x hx
 rcases parse_cases hx with ⟨fs,ms,rest,hs,hP,hl,rfl⟩ | ⟨w,p,hw,rfl⟩
 ·have hlim:limT L≤32768:=by unfold limT; omega
  have hfit:=fits_self hP
  let Wd:Lim:=⟨max L.text m.text,max L.funcs m.funcs,max L.arity m.arity,max L.nest m.nest⟩
  have hW:(t.length:Int)≤limT Wd:=by unfold limT at hl ⊢; show (t.length:Int)≤min (max (max L.text m.text) 0) 32768; omega
  have hWf:Fits Wd fs:=by
   obtain ⟨a,b,c⟩:=hfit
   refine ⟨?_,?_,?_⟩
   ·show _∨_≤max L.nest m.nest; have:nFs fs=0∨(nFs fs:Int)≤L.nest:=a; omega
   ·show _∨_≤max L.arity m.arity; have:aFs fs=0∨(aFs fs:Int)≤L.arity:=b; omega
   ·show _∨_≤max L.funcs m.funcs; have:fs.length=0∨(fs.length:Int)≤L.funcs:=c; omega
  simp -implicitDefEqProofs [evP,fillA,splice,wrOb,evL,mmF,hmx]
  refine SC.frz (by simp) [.sl t.length (t.map byA),.agg [iv Wd.text,iv Wd.funcs,iv Wd.arity,iv Wd.nest]] (by simp [Wd]) (post:=ParseR t Wd) (by simpa [Wd] using lparse_ap t Wd) (by simp) ?_ (a:=.mk)
  rintro x hx2
  obtain rfl:=parse_fit hs hP hW hWf hx2
  simp -implicitDefEqProofs [evP,fillA,splice,wrOb]
  have hml:=scan_len _ t 0 ms (Nat.lt_succ_self _) hs
  have hsm:=small_of hP (by omega)
  have htl:t.length≤32768:=by omega
  refine LP.go (WdI t fs [.var [iv L.text,iv L.funcs,iv L.arity,iv L.nest],.var [iv m.text,iv m.funcs,iv m.arity,iv m.nest],.var [.sl fs.length (fdsA fs)],.var [iv 0,iv 0],.var [iv (max L.text m.text),iv (max L.funcs m.funcs),iv (max L.arity m.arity),iv (max L.nest m.nest)],.var [.sl fs.length (fdsA fs)],.var [iv 0,iv 0]] []) fs.length ⟨⟨0,by simp,by simp,by simp,rfl⟩,by simp,by simp,by simp,by simp,by simp⟩ ?_
  unfold c_mwider_L0
  rintro g F H ⟨⟨j,hj,rfl,h13,rfl⟩,f0,f7,f10,f11,f12⟩
  by_cases hjl:j < fs.length
  ·obtain ⟨f,hf⟩:∃ f,fs[j]? = some f:=⟨_,List.getElem?_eq_getElem hjl⟩
   have hmem:=List.mem_of_getElem? hf
   have hjl':(j:Int) < fs.length:=by omega
   have hat:=fdsA_at hf
   have hvz:j * 11 + 11≤(fdsA fs).length:=by rw [fdsA_len]; omega
   have hw1:IntKind.i64.wrap ((j:Int) + 1)=((j + 1:Nat):Int):=by rw [wrap64 _ (by have:=hsm.len; omega)]; omega
   have hlen11:∀ k,k < 11→(fdsA fs)[j * 11 + k]? = (fdA f)[k]?:=fun k hk=>by
    have:=congrArg (fun l=>l[k]?) hat
    simpa [List.getElem?_take,hk,List.getElem?_drop] using this
   have hat1:(fdsA fs)[j * 11 + 1]? = some (.sl f.params.length (pmsA f.params)):=by rw [hlen11 1 (by omega)]; rfl
   have hat3:((fdsA fs).drop (j * 11 + 3)).take 7=f.body.cells:=by
    have h2:=congrArg (fun l=>(l.drop 3).take 7) hat
    obtain ⟨nm,ps,ty,⟨bop,bnm,btl,bty,bnum,bus,bpos⟩,pos⟩:=f
    simp only [List.drop_take,List.drop_drop,List.take_take] at h2
    rw [show min 7 (11 - 3)=7 by decide] at h2
    rw [h2]; rfl
   have hvz7:j * 11 + 3 + 7≤(fdsA fs).length:=by omega
   have hnest:=mnest_ap (G:=GmL) 1000000 f.body (hsm.cnt f hmem) (hsm.cnt f hmem)
   have ha1:aFs (fs.take (j + 1))=max (aFs (fs.take j)) f.params.length:=by rw [List.take_add_one,hf,aFs_app]; simp [aFs]
   have hn1:nFs (fs.take (j + 1))=max (nFs (fs.take j)) (nX f.body):=by rw [List.take_add_one,hf,nFs_app]; simp [nFs]
   obtain ⟨fnm,fps,fty,⟨bop,bnm,btl,bty,bnum,bus,bpos⟩,fpos⟩:=f
   simp only [exA,Ex.cells] at hat3 hnest
   simp -implicitDefEqProofs [-Int.natCast_add,f0,f7,f12,h13,hjl,hjl',hat1,hat3,hvz,hvz7,wrOb,splice,evL,mmF,farP,hmn]
   refine XC.frz [.agg [iv bop,sv bnm,sv btl,iv bty,cv (W bnum.1) (W bnum.2),.sl bus.length (exsA bus),iv bpos]] (by simp) hnest (by simp) ?_ (a:=.mk)
   rintro x rfl
   simp -implicitDefEqProofs [-Int.natCast_add,f0,f7,f12,h13,wrOb,splice,evL,mmF,farP,hmn,hw1]
   refine ⟨fs.length - (j + 1),by omega,⟨⟨j + 1,by omega,rfl,by simp,?_⟩,by simp [f0],by simp [f7],by simp [f10],by simp [f11],by simp [f12]⟩⟩
   rw [ha1,hn1]; rfl
  ·have hje:j=fs.length:=by omega
   subst hje
   rw [List.take_length]
   simp -implicitDefEqProofs [-Int.natCast_add,f0,f7,f10,f11,f12,h13]
   obtain ⟨gs,pre,e,ho,hms,_,_,hne,hgl,_,_,_⟩:=prog_more hP [] _ rfl fs rest rfl
   have hfl:fs.length≠0:=fun h=>hne (List.length_eq_zero_iff.1 h)
   have ho':fs=gs:=ho
   have htp:1≤t.length:=by
    rw [hms] at hml
    simp only [List.length_append,List.length_cons] at hml
    rw [← ho'] at hgl
    omega
   have hfs1:=hsm.len
   have hfa:aFs fs≤1000000:=aFs_le (fun f hf=>hsm.par f hf)
   have hfn:nFs fs≤1000000:=nFs_le (fun f hf=>Nat.le_trans (nX_cnt _) (hsm.cnt f hf))
   have lO:limT ⟨(t.length:Int),(fs.length:Int),(aFs fs:Int),(nFs fs:Int)⟩=t.length:=by unfold limT; show min (max (t.length:Int) 0) 32768=_; omega
   have hwF:IntKind.i64.wrap ((fs.length:Int) - 1)=(fs.length:Int) - 1:=wrap64 _ (by omega)
   have hwF1:IntKind.i64.wrap (fs.length:Int)=(fs.length:Int):=wrap64 _ (by omega)
   have hwT:IntKind.i64.wrap ((t.length:Int) - 1)=(t.length:Int) - 1:=wrap64 _ (by omega)
   have hwT1:IntKind.i64.wrap (t.length:Int)=(t.length:Int):=wrap64 _ (by omega)
   have hwA:IntKind.i64.wrap ((aFs fs:Int) - 1)=(aFs fs:Int) - 1:=wrap64 _ (by omega)
   have hwA1:IntKind.i64.wrap (aFs fs:Int)=(aFs fs:Int):=wrap64 _ (by omega)
   have hwN:IntKind.i64.wrap ((nFs fs:Int) - 1)=(nFs fs:Int) - 1:=wrap64 _ (by omega)
   have hwN1:IntKind.i64.wrap (nFs fs:Int)=(nFs fs:Int):=wrap64 _ (by omega)
   refine SC.frz (by simp) [.sl t.length (t.map byA),.agg [iv ((t.length:Int)),iv ((fs.length:Int)),iv ((aFs fs:Int)),iv ((nFs fs:Int))]] (by simp) (post:=ParseR t ⟨(t.length:Int),(fs.length:Int),(aFs fs:Int),(nFs fs:Int)⟩) (by simpa using lparse_ap t ⟨(t.length:Int),(fs.length:Int),(aFs fs:Int),(nFs fs:Int)⟩) (by simp) ?_ (a:=.mk)
   rintro x hx3
   obtain rfl:=parse_fit hs hP (by show _≤limT _; rw [lO]; omega) ⟨.inr (Int.le_refl _),.inr (Int.le_refl _),.inr (Int.le_refl _)⟩ hx3
   have hsame:=psame_ap (G:=GmL) true fs fs hsm
   rw [sameG_refl] at hsame
   simp -implicitDefEqProofs [-Int.natCast_add,f0,f7,f10,f11,f12,evP,fillA,splice,wrOb,hwF,hwF1,hwT,hwT1,hwA,hwA1,hwN,hwN1]
   refine SCall.frz (xs:=[.agg [.sl fs.length (fdsA fs)],.agg [.sl fs.length (fdsA fs)],bv true]) (by simp) (by simp) (by simpa using hsame) (by simp) ?_
   rintro x rfl
   simp -implicitDefEqProofs [-Int.natCast_add,f0,f7,f10,f11,f12,evP,fillA,splice,wrOb,hwF,hwF1,hwT,hwT1,hwA,hwA1,hwN,hwN1]
   refine SCall.frz (xs:=[.agg [.sl fs.length (fdsA fs)],.agg [.sl fs.length (fdsA fs)],bv true]) (by simp) (by simp) (by simpa using hsame) (by simp) ?_
   rintro x rfl
   simp -implicitDefEqProofs [-Int.natCast_add,f0,f7,f10,f11,f12,evP,fillA,splice,wrOb,hwF,hwF1,hwT,hwT1,hwA,hwA1,hwN,hwN1]
   refine SC.frz (by simp) [.sl t.length (t.map byA),.agg [iv ((t.length:Int)),iv ((fs.length:Int) - 1),iv ((aFs fs:Int)),iv ((nFs fs:Int))]] (by simp) (post:=ParseR t ⟨(t.length:Int),(fs.length:Int) - 1,(aFs fs:Int),(nFs fs:Int)⟩) (by simpa using lparse_ap t ⟨(t.length:Int),(fs.length:Int) - 1,(aFs fs:Int),(nFs fs:Int)⟩) (by simp) ?_ (a:=.mk)
   rintro x hx4
   obtain ⟨p4,rfl⟩:=parse_22 hs hP (by show _≤min (max (t.length:Int) 0) 32768; omega) (.inr (Int.le_refl _)) (by rintro ⟨_,_,h⟩; simp only at h; omega) hx4
   simp -implicitDefEqProofs [-Int.natCast_add,f0,f7,f10,f11,f12,evP,fillA,splice,wrOb,hwF,hwF1,hwT,hwT1,hwA,hwA1,hwN,hwN1]
   refine SC.frz (by simp) [.sl t.length (t.map byA),.agg [iv ((t.length:Int) - 1),iv ((fs.length:Int)),iv ((aFs fs:Int)),iv ((nFs fs:Int))]] (by simp) (post:=ParseR t ⟨(t.length:Int) - 1,(fs.length:Int),(aFs fs:Int),(nFs fs:Int)⟩) (by simpa using lparse_ap t ⟨(t.length:Int) - 1,(fs.length:Int),(aFs fs:Int),(nFs fs:Int)⟩) (by simp) ?_ (a:=.mk)
   rintro x hx5
   obtain rfl:=parse_big (by show min (max ((t.length:Int) - 1) 0) 32768 < _; omega) hx5
   simp -implicitDefEqProofs [-Int.natCast_add,f0,f7,f10,f11,f12,evP,fillA,splice,wrOb,hwF,hwF1,hwT,hwT1,hwA,hwA1,hwN,hwN1]
   by_cases hA0:aFs fs=0
   ·have hA1:¬ 0 < aFs fs:=by omega
    by_cases hN0:nFs fs=0
    ·have hN1:¬ 0 < nFs fs:=by omega
     simp -implicitDefEqProofs [-Int.natCast_add,f0,f7,f10,f11,f12,evP,fillA,splice,wrOb,hwF,hwF1,hwT,hwT1,hwA,hwA1,hwN,hwN1,hN1,hA1]
    ·have hN1:0 < nFs fs:=by omega
     simp -implicitDefEqProofs [-Int.natCast_add,f0,f7,f10,f11,f12,evP,fillA,splice,wrOb,hwF,hwF1,hwT,hwT1,hwA,hwA1,hwN,hwN1,hN1,hA1]
     refine SC.frz (by simp) [.sl t.length (t.map byA),.agg [iv ((t.length:Int)),iv ((fs.length:Int)),iv ((aFs fs:Int)),iv ((nFs fs:Int) - 1)]] (by simp) (post:=ParseR t ⟨(t.length:Int),(fs.length:Int),(aFs fs:Int),(nFs fs:Int) - 1⟩) (by simpa using lparse_ap t ⟨(t.length:Int),(fs.length:Int),(aFs fs:Int),(nFs fs:Int) - 1⟩) (by simp) ?_ (a:=.mk)
     rintro x hx7
     obtain ⟨p7,rfl⟩:=parse_23 hs hP (by show _≤min (max (t.length:Int) 0) 32768; omega) ⟨.inr (Int.le_refl _),.inr (Int.le_refl _)⟩ (by rintro (h | h); exact hN0 h; simp only at h; omega) hx7
     simp -implicitDefEqProofs [-Int.natCast_add,f0,f7,f10,f11,f12,evP,fillA,splice,wrOb,hwF,hwF1,hwT,hwT1,hwA,hwA1,hwN,hwN1,hN1,hA1]
   ·have hA1:0 < aFs fs:=by omega
    simp -implicitDefEqProofs [-Int.natCast_add,f0,f7,f10,f11,f12,evP,fillA,splice,wrOb,hwF,hwF1,hwT,hwT1,hwA,hwA1,hwN,hwN1,hA1]
    refine SC.frz (by simp) [.sl t.length (t.map byA),.agg [iv ((t.length:Int)),iv ((fs.length:Int)),iv ((aFs fs:Int) - 1),iv ((nFs fs:Int))]] (by simp) (post:=ParseR t ⟨(t.length:Int),(fs.length:Int),(aFs fs:Int) - 1,(nFs fs:Int)⟩) (by simpa using lparse_ap t ⟨(t.length:Int),(fs.length:Int),(aFs fs:Int) - 1,(nFs fs:Int)⟩) (by simp) ?_ (a:=.mk)
    rintro x hx6
    obtain ⟨p6,rfl⟩:=parse_22 hs hP (by show _≤min (max (t.length:Int) 0) 32768; omega) (.inr (Int.le_refl _)) (by rintro ⟨_,h | h,_⟩; exact hA0 h; simp only at h; omega) hx6
    by_cases hN0:nFs fs=0
    ·have hN1:¬ 0 < nFs fs:=by omega
     simp -implicitDefEqProofs [-Int.natCast_add,f0,f7,f10,f11,f12,evP,fillA,splice,wrOb,hwF,hwF1,hwT,hwT1,hwA,hwA1,hwN,hwN1,hN1,hA1]
    ·have hN1:0 < nFs fs:=by omega
     simp -implicitDefEqProofs [-Int.natCast_add,f0,f7,f10,f11,f12,evP,fillA,splice,wrOb,hwF,hwF1,hwT,hwT1,hwA,hwA1,hwN,hwN1,hN1,hA1]
     refine SC.frz (by simp) [.sl t.length (t.map byA),.agg [iv ((t.length:Int)),iv ((fs.length:Int)),iv ((aFs fs:Int)),iv ((nFs fs:Int) - 1)]] (by simp) (post:=ParseR t ⟨(t.length:Int),(fs.length:Int),(aFs fs:Int),(nFs fs:Int) - 1⟩) (by simpa using lparse_ap t ⟨(t.length:Int),(fs.length:Int),(aFs fs:Int),(nFs fs:Int) - 1⟩) (by simp) ?_ (a:=.mk)
     rintro x hx7
     obtain ⟨p7,rfl⟩:=parse_23 hs hP (by show _≤min (max (t.length:Int) 0) 32768; omega) ⟨.inr (Int.le_refl _),.inr (Int.le_refl _)⟩ (by rintro (h | h); exact hN0 h; simp only at h; omega) hx7
     simp -implicitDefEqProofs [-Int.natCast_add,f0,f7,f10,f11,f12,evP,fillA,splice,wrOb,hwF,hwF1,hwT,hwT1,hwA,hwA1,hwN,hwN1,hN1,hA1]
 ·simp -implicitDefEqProofs [hw,evP,fillA,splice,wrOb]
end Go.Proofs.YtgddkgbidhhheaaGreatDoor
set_option linter.unusedVariables false
namespace Go.Proofs.YtgddkgbidhhheaaGreatDoor
open Go.ChangeShapes Go.WideShapes Go.ChangeAt Go.RowKit Go.Joins
theorem cellsLim:Tryz.prog.cellsOf 43=4:=by kernel_rfl
section
variable {H:Type} {enc:TypeId × Value→H} {w:World} {base:Nat} {spare:Nat→Bool} {held:Bool}
set_option maxRecDepth 100000 in
theorem open_lim {r:Reach} {b0:Nat} {v:Value} {d:DataW H} {p:List MemPlace} (hv:Value.okWide Tryz.prog w r b0 43 v) (h:DataW.Trod enc Tryz.prog w base spare held 43 v d p) :
  ∃ (x0 x1 x2 x3:Int),v=.agg #[.int .i64 x0,.int .i64 x1,.int .i64 x2,.int .i64 x3]∧d=.agg [.lit (.int .i64 x0),.lit (.int .i64 x1),.lit (.int .i64 x2),.lit (.int .i64 x3)]∧p=[]∧(Lit.int .i64 x0).wf=true∧(Lit.int .i64 x1).wf=true∧(Lit.int .i64 x2).wf=true∧(Lit.int .i64 x3).wf=true:=by
 obtain ⟨c0,c1,c2,c3,y0,y1,y2,y3,m,rfl,rfl,rfl,hy0,hy1,hy2,hy3⟩:=open_agg4 Tryz.underlying43 (by kernel_rfl) cellsLim hv h
 obtain ⟨x0,e0,rfl,w0⟩:=DataW.trod_int Tryz.underlying3 hy0
 obtain ⟨x1,e1,rfl,w1⟩:=DataW.trod_int Tryz.underlying3 hy1
 obtain ⟨x2,e2,rfl,w2⟩:=DataW.trod_int Tryz.underlying3 hy2
 obtain ⟨x3,e3,rfl,w3⟩:=DataW.trod_int Tryz.underlying3 hy3
 simp at e0 e1 e2 e3
 subst e0 e1 e2 e3
 exact ⟨x0,x1,x2,x3,rfl,rfl,rfl,w0,w1,w2,w3⟩
set_option maxRecDepth 100000 in
theorem shut_lim {x0 x1 x2 x3 : Int} (w0 : (Lit.int .i64 x0).wf = true) (w1 : (Lit.int .i64 x1).wf = true) (w2 : (Lit.int .i64 x2).wf = true) (w3 : (Lit.int .i64 x3).wf = true) :
    DataW.Trod enc Tryz.prog w base spare held 43 (.agg #[.int .i64 x0, .int .i64 x1, .int .i64 x2, .int .i64 x3]) (.agg [.lit (.int .i64 x0), .lit (.int .i64 x1), .lit (.int .i64 x2), .lit (.int .i64 x3)]) [] :=
  shut_agg4 (y0 := (.lit (.int .i64 x0), [])) (y1 := (.lit (.int .i64 x1), [])) (y2 := (.lit (.int .i64 x2), [])) (y3 := (.lit (.int .i64 x3), [])) Tryz.underlying43 (by kernel_rfl) cellsLim
    ⟨1, by simp [DataW.trod, Tryz.underlying3, w0]⟩ ⟨1, by simp [DataW.trod, Tryz.underlying3, w1]⟩ ⟨1, by simp [DataW.trod, Tryz.underlying3, w2]⟩ ⟨1, by simp [DataW.trod, Tryz.underlying3, w3]⟩
end
open Flo Ab Mk
theorem rd_txtL {w:World} {M:Nat→Prop} {p:Option Addr} {c:Nat} {t:List UInt8} (ht:Txt w p t) (hc:t.length≤c) (hM:∀ b,¬ M b):RD w M (.sl t.length (t.map byA)) (.slice p t.length c):=by
 by_cases h0:t=[]
 ·subst h0; exact .sl0 _ _
 ·obtain ⟨b,o,rfl,hcell⟩:=ht h0
  obtain ⟨x,r,rfl⟩:∃ x r,t=x :: r:=by cases t with | nil=>exact absurd rfl h0 | cons a b=>exact ⟨a,b,rfl⟩
  refine .sl b o _ c _ ((x :: r).map fun y=>.int .u8 (y.toNat:Int)) (by simp) (hM b) (World.block_lt_of_cell? w _ (hcell 0 x rfl)) (fun j u hu=>?_) (fun u hu=>?_) (fun j y u hy hu=>?_) hc
  ·rw [List.getElem?_map,Option.map_eq_some_iff] at hu
   obtain ⟨y,hy,rfl⟩:=hu
   exact hcell j y hy
  ·obtain ⟨y,_,rfl⟩:=List.mem_map.1 hu; rfl
  ·rw [List.getElem?_map,Option.map_eq_some_iff] at hy hu
   obtain ⟨z,hz,rfl⟩:=hy
   obtain ⟨z',hz',rfl⟩:=hu
   rw [hz] at hz'; cases hz'
   exact .v _ rfl
theorem rd_limL {w:World} {M:Nat→Prop} (a b c d:Int):RD w M (.agg [iv a,iv b,iv c,iv d]) (.agg #[.int .i64 a,.int .i64 b,.int .i64 c,.int .i64 d]):=by
 refine .agg _ [.int .i64 a,.int .i64 b,.int .i64 c,.int .i64 d] rfl (fun u hu=>?_) (fun j x u hx hu=>?_)
 ·simp only [List.mem_cons,List.not_mem_nil,or_false] at hu
  rcases hu with rfl | rfl | rfl | rfl<;>rfl
 ·match j,hx,hu with
  | 0,rfl,rfl=>exact .v _ rfl
  | 1,rfl,rfl=>exact .v _ rfl
  | 2,rfl,rfl=>exact .v _ rfl
  | 3,rfl,rfl=>exact .v _ rfl
theorem calls_st {P:Program} {G:World→Prop} {f:FuncId} {xs:List AV} {us:List Value} (h:AP P G f xs (fun x=>x=bv true)) (W:World) (hG:G W) (hl:us.length=xs.length) (hr:∀ (j:Nat) (x:AV) (u:Value),xs[j]? = some x→us[j]? = some u→RD W (fun _=>False) x u) :
  Calls P f us.toArray W fun e W'=>e=.returned (.bool true)∧Below W.heap.size W W':=by
 refine (h W W (fun _=>False) _ hG (Below.refl _ _) (fun b hb=>hb.elim) ⟨by simpa using hl,fun j x hx=>?_⟩).mono ?_
 ·have hj:j < us.length:=by rw [hl]; exact (List.getElem?_eq_some_iff.1 hx).1
  exact ⟨us[j],by simp [hj],hr j x _ hx (List.getElem?_eq_getElem hj)⟩
 ·rintro e w' ⟨u,x,rfl,hb,hr,rfl⟩
  cases hr
  exact ⟨rfl,hb⟩
end Go.Proofs.YtgddkgbidhhheaaGreatDoor
