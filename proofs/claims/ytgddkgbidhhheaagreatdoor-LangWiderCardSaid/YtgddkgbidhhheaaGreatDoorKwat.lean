/- Texts joined: Lnh Lni Lnj Prf. -/
import Derived.Test.YtgddkgbidhhheaaGreatDoorKwas
import Derived.Test.YtgddkgbidhhheaaGreatDoorKwar
set_option linter.unusedVariables false
set_option linter.unusedSimpArgs false
set_option maxRecDepth 100000
namespace Go.Proofs.YtgddkgbidhhheaaGreatDoor
open Go.RowKit Flo Ab Mk Pg
theorem AM.goX {Pr:Program} {Gs0:Gs} (hmix:Pr.follows .mixedOrders=true) {f:FuncId} {N:Nat} {xc:XCode} {sl:List RSlot} (hf:FunX Pr f N xc sl) {Gi:Gs} (hi:∀ w,Gs0.inv w→Gi.inv w) {okD:DL→Prop} (ho:okD []) {args:List AV} {cs:List AV} {post:AV→List AV→Prop} (hN:args.length≤N)
  (hp:endP Pr Gs0 Gi okD sl (finM post)) (h:xw Pr Gi okD N xc (endX Pr Gs0 sl (finM post)) [] (argF args) [.var cs]):AM Pr Gs0 f args cs post:=by
 refine AC.mono (AC.goX hmix hf hi ho hN hp h) (fun x H hq=>?_)
 obtain ⟨h1,cs',h2,h3,h4⟩:=hq
 exact ⟨h1,[cs'],rfl,fun j cs0 hj=>by
  cases j with
  | zero=>cases hj; exact ⟨h2,h3⟩
  | succ j=>simp at hj,cs',rfl,h4⟩
theorem AM.goX0 {Pr:Program} {Gs0:Gs} (hmix:Pr.follows .mixedOrders=true) {f:FuncId} {N:Nat} {xc:XCode} {sl:List RSlot} (hf:FunX Pr f N xc sl) {args:List AV} {cs:List AV} {post:AV→List AV→Prop} (hN:args.length≤N)
  (h:xw Pr Gs0 (fun ls=>ls=[]) N xc (endX Pr Gs0 sl (finM post)) [] (argF args) [.var cs]):AM Pr Gs0 f args cs post:=
 AM.goX hmix hf (okD:=fun ls=>ls=[]) (fun _ h=>h) rfl hN (fun ls x H hl hp=>by subst hl; unfold Settle; exact .inr ⟨x,rfl,hp⟩) h
theorem endR_nil {Pr:Program} {Gs0:Gs} {sl:List RSlot} {post:AV→List Ob→Prop} {F:Fr} {H:List Ob}:endR Pr Gs0 sl post [] F H = ∃ xs,rgets F H sl=some xs∧post (rval xs) H:=by
 unfold endR Settle; simp
section
variable {G:World→Prop} {l:Lim} {E:Int→Int→Prop} {n:Int} {Q:Res→Prop} {vs:List Vl} {is:List It} {L:Nat}
theorem strN_some {m:M} {lv:Nat} (h:(strN m).1=(lv:Int)):∃ op,strOf m=some (lv,op)∧(strN m).2=op:=by
 unfold strN at *
 cases hs:strOf m with
 | none=>rw [hs] at h; have h':(-1:Int)=lv:=h; omega
 | some q=>
  obtain ⟨a,op⟩:=q
  rw [hs] at h
  have h':(a:Int)=lv:=h
  obtain rfl:a=lv:=by omega
  exact ⟨op,rfl,rfl⟩
theorem strN_not {m:M} {lv:Nat} (h:(strN m).1≠(lv:Int)):(strOf m).map (·.1)≠some lv:=by
 intro he
 unfold strN at h
 cases hs:strOf m with
 | none=>rw [hs] at he; cases he
 | some q=>
  obtain ⟨a,op⟩:=q
  rw [hs] at he h
  simp only [Option.map_some,Option.some.injEq] at he
  subst he
  exact h rfl
theorem strOf_kind {m:M} {q:Nat × Int} (h:strOf m=some q):m.kind≠4:=by
 unfold strOf at h
 repeat' split at h
 all_goals first | (rename_i hq; exact (isW_kind hq).2.2) | cases h
def RowC (G:World→Prop) (l:Lim) (L:Nat):Prop:=∀ (lv:Nat) (ms:List M) (n:Int) (E:Int→Int→Prop),lv≤4→Mz ms→ms.length≤L→0≤n→n + ms.length≤50000→(∀ w p,P l (.row n lv ms) (.bad w p)→E w p) →
 AM Tryz.prog (Gl G l E) 102 [.ptr 0 0,iv lv] (prs l ms n) (OutL l (fun n ms=>.row n lv ms) n ms)
structure RwI (l:Lim) (n:Int) (lv:Nat) (ms0:List M) (g:Nat) (F:Fr) (H:List Ob):Prop where
 ex:∃ (o:Int) (nm tl:List UInt8) (ty:Int) (num:Int × Int) (args:List Ex) (pos:Int) (ms:List M),g=ms.length∧Mz ms∧ms.length < ms0.length∧(∀ r,P l (.tail n lv (.mk o nm tl ty num args pos) ms) r→P l (.row n lv ms0) r) ∧
  H[0]? = some (.var (prs l ms n))∧H[2]? = some (.var [iv o,sv nm,sv tl,iv ty,cv (W num.1) (W num.2),.sl args.length (exsA args),iv pos])
 f0:F 0=some (.ptr 0 0)
 f1:F 1=some (iv lv)
 f4:F 4=some (.ptr 1 0)
 f5:F 5=some (.ptr 2 0)
 hH1:H[1]? = some (.var [iv 0,sv [],sv [],iv 0,cv 0 0,.v (.slice none 0 0),iv 0])
theorem lrow_ok (hX:HXL G l L) (hR:∀ L',L' < L→RowC G l L'):RowC G l L:=by
 suffices key:∀ (k lv:Nat) (ms:List M) (n:Int) (E:Int→Int→Prop),lv + k=4→Mz ms→ms.length≤L→0≤n→n + ms.length≤50000→(∀ w p,P l (.row n lv ms) (.bad w p)→E w p) →
  AM Tryz.prog (Gl G l E) 102 [.ptr 0 0,iv lv] (prs l ms n) (OutL l (fun n ms=>.row n lv ms) n ms) from fun lv ms n E h=>key (4 - lv) lv ms n E (by omega)
 intro k
 induction k with
 | zero=>
  intro lv ms n E hk hz hlt hn hb hE
  obtain rfl:lv=4:=by omega
  have hu:=lunit_ok (G:=G) (E:=E) hX hn hz hlt hb (fun w p h=>hE w p (.row4 h))
  refine AM.goX0 hmix F_lrow (by simp) ?_
  simp -implicitDefEqProofs [c_lrow,noGo]
  refine SC.pr (by simp) [.ptr 0 0] (by simp) (ms:=ms) (n:=n) (by simp) (hu) (by simp [toO]) ⟨0,by simp⟩ (by simp [lentO]) ?_ (tg:=.mk)
  rintro x cs - ⟨e,ms',hP,rfl,hz',hl',rfl⟩
  obtain ⟨o,nm,tl,ty,num,args,pos⟩:=e
  simp -implicitDefEqProofs [exA,Ex.cells,wrOb,splice,endR_nil,finM]
  exact ⟨by simp [prs],.mk o nm tl ty num args pos,ms',.row4 hP,by simp [exA,Ex.cells],hz',hl',rfl⟩
 | succ k ih=>
  intro lv ms n E hk hz hlt hn hb hE
  have hlv:lv < 4:=by omega
  have h3:¬ (3:Int) < lv:=by omega
  have hw1:IntKind.i64.wrap ((lv:Int) + 1)=((lv + 1:Nat):Int):=by rw [wrap64 _ (by omega)]; omega
  have hu:=ih (lv + 1) ms n E (by omega) hz hlt hn hb (fun w p h=>hE w p (.rowBad hlv h))
  refine AM.goX0 hmix F_lrow (by simp) ?_
  simp -implicitDefEqProofs [c_lrow,noGo,h3,hw1,-Int.natCast_add]
  refine SC.pr (by simp) [.ptr 0 0,iv (lv + 1:Nat)] (by simp) (ms:=ms) (n:=n) (by simp) (hu) (by simp [toO]) ⟨0,by simp⟩ (by simp [lentO]) ?_ (tg:=.mk)
  rintro x cs - ⟨e,ms',hP,rfl,hz',hl',rfl⟩
  obtain ⟨o,nm,tl,ty,num,args,pos⟩:=e
  simp -implicitDefEqProofs [exA,Ex.cells,wrOb,splice,endR_nil]
  refine LB.go (RwI l n lv ms) ms'.length ⟨⟨o,nm,tl,ty,num,args,pos,ms',rfl,hz',hl',fun r hr=>.row hlv hP hr,by simp,by simp⟩,by simp,by simp,by simp,by simp,by simp⟩ ?_
  clear hP hz' hl' ms' o nm tl ty num args pos
  rintro g F H ⟨⟨o,nm,tl,ty,num,args,pos,ms1,rfl,hz1,hl1,hP,hH0,hH2⟩,f0,f1,f4,f5,hH1⟩
  obtain ⟨m,r1,rfl⟩:=hz1.cons
  have hl0:0 < H.length:=(List.getElem?_eq_some_iff.1 hH0).1
  have hl2:2 < H.length:=(List.getElem?_eq_some_iff.1 hH2).1
  have hHg:H[0]'hl0=.var (prs l (m :: r1) n):=(List.getElem?_eq_some_iff.1 hH0).2
  simp only [List.length_cons] at hl1
  simp -implicitDefEqProofs [f0]
  refine SC.pr (by simp) [.ptr 0 0] (by simp) (ms:=m :: r1) (n:=n) (by simp -implicitDefEqProofs [hH0]) (lnext_ap m r1 n) (by simp [toO,hH0]) ⟨0,by simp [hH0]⟩ (by simp [lentO,hH0]) ?_ (tg:=.mk)
  rintro x cs - ⟨rfl,rfl⟩
  have hf0:(frzT H [.ptr 0 0]).1=H:=by simp
  rw [hf0,set_same hH0]
  simp -implicitDefEqProofs
  refine SC.frz (by simp) [.agg (mcells m)] (by simp) (post:=fun x=>x=.tup [iv (strN m).1,iv (strN m).2]) (by simpa [mcells] using lstrength_ap m (hz1.txt m (by simp))) (by simp [mcells]) ?_ (a:=.mk)
  rintro x rfl
  have hfm:(frzT H [.agg (mcells m)]).1=H:=by simp [mcells]
  rw [hfm]
  by_cases hs:(strN m).1=(lv:Int)
  ·obtain ⟨op,hst,hop⟩:=strN_some hs
   have hz2:=hz1.tail (strOf_kind hst)
   have hrl:right lv≤4:=by unfold right; split<;>omega
   have hrow:=hR r1.length (by omega) (right lv) r1 n E hrl hz2 (by omega) hn (by omega) (fun w p h=>hE w p (hP _ (.tailBad _ hst h)))
   rw [hs,hop]
   simp -implicitDefEqProofs [f0,f1]
   refine SC.pr (by simp) [.ptr 0 0] (by simp) (ms:=m :: r1) (n:=n) (by simp -implicitDefEqProofs [hH0]) (lstep_ap m r1 n) (by simp [toO,hH0]) ⟨0,by simp [hH0]⟩ (by simp [lentO,hH0]) ?_ (tg:=.mk)
   rintro x cs - ⟨rfl,rfl⟩
   rw [hf0]
   have gs2:∀ (Y:List Ob) (o':Ob),(H.set 0 o'++Y)[2]? = some (.var [iv o,sv nm,sv tl,iv ty,cv (W num.1) (W num.2),.sl args.length (exsA args),iv pos]):=fun Y o'=>by
    rw [List.getElem?_append_left (by simpa using hl2),List.getElem?_set_ne (by omega)]; exact hH2
   have gs0:∀ (Y:List Ob) (o':Ob),(H.set 0 o'++Y)[0]? = some o':=fun Y o'=>by
    rw [List.getElem?_append_left (by simpa using hl0),List.getElem?_set_self hl0]
   have gs1:∀ (Y:List Ob) (o':Ob),(H.set 0 o'++Y)[1]? = some (.var [iv 0,sv [],sv [],iv 0,cv 0 0,.v (.slice none 0 0),iv 0]):=fun Y o'=>by
    rw [List.getElem?_append_left (by simp; omega),List.getElem?_set_ne (by omega)]; exact hH1
   have gm:∀ (y:Ob) (Y:List Ob) (o':Ob),(H.set 0 o'++y :: Y)[H.length]? = some y:=fun y Y o'=>by
    rw [List.getElem?_append_right (by simp)]; simp
   have hl1':1 < H.length:=by omega
   have e2:∀ (a b:Ob) (Y:List Ob),((H.set 0 a).set 2 b++Y)[2]? = some b:=fun a b Y=>by
    rw [List.getElem?_append_left (by simpa using hl2),List.getElem?_set_self (by simpa using hl2)]
   have e1:∀ (a b:Ob) (Y:List Ob),((H.set 0 a).set 2 b++Y)[1]? = some (.var [iv 0,sv [],sv [],iv 0,cv 0 0,.v (.slice none 0 0),iv 0]):=fun a b Y=>by
    rw [List.getElem?_append_left (by simp; omega),List.getElem?_set_ne (by omega),List.getElem?_set_ne (by omega)]; exact hH1
   have e0:∀ (a b:Ob) (Y:List Ob),((H.set 0 a).set 2 b++Y)[0]? = some a:=fun a b Y=>by
    rw [List.getElem?_append_left (by simp; omega),List.getElem?_set_ne (by omega),List.getElem?_set_self hl0]
   have f1':∀ (a b c:Ob) (Y:List Ob),(((H.set 0 a).set 2 b).set 1 c++Y)[1]? = some c:=fun a b c Y=>by
    rw [List.getElem?_append_left (by simp; omega),List.getElem?_set_self (by simp; omega)]
   have f0':∀ (a b c:Ob) (Y:List Ob),(((H.set 0 a).set 2 b).set 1 c++Y)[0]? = some a:=fun a b c Y=>by
    rw [List.getElem?_append_left (by simp; omega),List.getElem?_set_ne (by omega),List.getElem?_set_ne (by omega),List.getElem?_set_self hl0]
   have hfar:¬ 0=H.length:=by omega
   have hgo:∀ F1:Fr,F1 0=some (.ptr 0 0)→F1 1=some (iv lv)→F1 4=some (.ptr 1 0)→F1 5=some (.ptr 2 0)→F1 7=some (iv op)→F1 8=some (.ptr H.length 0)→F1 9=some (iv (right lv))→True:=fun _ _ _ _ _ _ _ _=>trivial
   simp -implicitDefEqProofs [f0,f1,f4,f5,mcells,wrOb,splice,hw1,-Int.natCast_add,-getElem?_pos,gs0,gs1,gs2,gm]
   by_cases h0:lv=0
   ·subst h0
    have hrow:AM Tryz.prog (Gl G l E) 102 [.ptr 0 0,iv 0] (prs l r1 n) (OutL l (fun n ms=>.row n 0 ms) n r1):=hrow
    simp -implicitDefEqProofs [f0,f1,f4,f5,wrOb,splice,hw1,-Int.natCast_add,-getElem?_pos,gs0,gs1,gs2,gm,farP,hfar]
    refine XC.pr [.ptr 0 0,iv 0] (by simp) (ms:=r1) (n:=n) (by first | simp | omega) (by simp [coverQ,f0,gs0,-getElem?_pos]) (by simp -implicitDefEqProofs [f0,gs0,-getElem?_pos]) (hrow) (by simp [toO,f0,gs0,-getElem?_pos]) ⟨0,by simp [f0,gs0,-getElem?_pos]⟩ (by simp [lentO,f0,gs0,-getElem?_pos]) ?_ (tg:=.mk)
    rintro x cs - ⟨e2,ms2,hP2,rfl,hz3,hl3,rfl⟩
    obtain ⟨o2,nm2,tl2,ty2,num2,args2,pos2⟩:=e2
    simp -implicitDefEqProofs [f0,f1,f4,f5,wrOb,splice,evP,fillA,hw1,-Int.natCast_add,-getElem?_pos,gs0,gs1,gs2,gm,farP,hfar,hl0,hl2,exA,Ex.cells,dz,hl1',e0,e1,e2,f0',f1',endR_nil,finM]
    exact ⟨by simp [prs],two op (.mk o nm tl ty num args pos) (.mk o2 nm2 tl2 ty2 num2 args2 pos2) m.pos,ms2,hP _ (.tail1 hst (by omega) hP2),by simp [exA,two,Ex.cells,exsA,W0],hz3,by omega,rfl⟩
   ·have hrr:right lv=lv + 1:=by unfold right; rw [if_neg h0]
    rw [hrr] at hrow
    simp -implicitDefEqProofs [f0,f1,f4,f5,wrOb,splice,hw1,-Int.natCast_add,-getElem?_pos,gs0,gs1,gs2,gm,farP,hfar,h0]
    by_cases hlv2:lv < 2
    ·have hlv2':(lv:Int) < 2:=by omega
     refine XC.pr [.ptr 0 0,iv (lv + 1:Nat)] (by simp) (ms:=r1) (n:=n) (by first | simp | omega) (by simp [coverQ,f0,gs0,-getElem?_pos]) (by simp -implicitDefEqProofs [f0,gs0,-getElem?_pos]) (hrow) (by simp [toO,f0,gs0,-getElem?_pos]) ⟨0,by simp [f0,gs0,-getElem?_pos]⟩ (by simp [lentO,f0,gs0,-getElem?_pos]) ?_ (tg:=.mk)
     rintro x cs - ⟨e2,ms2,hP2,rfl,hz3,hl3,rfl⟩
     obtain ⟨o2,nm2,tl2,ty2,num2,args2,pos2⟩:=e2
     simp -implicitDefEqProofs [f0,f1,f4,f5,wrOb,splice,evP,fillA,hw1,-Int.natCast_add,-getElem?_pos,gs0,gs1,gs2,gm,farP,hfar,hl0,hl2,exA,Ex.cells,hlv2',hlv2,dz,hl1',e0,e1,e2,f0',f1',endR_nil,finM]
     exact ⟨by simp [prs],two op (.mk o nm tl ty num args pos) (.mk o2 nm2 tl2 ty2 num2 args2 pos2) m.pos,ms2,hP _ (.tail1 hst hlv2 (by rw [hrr]; exact hP2)),by simp [exA,two,Ex.cells,exsA,W0],hz3,by omega,rfl⟩
    ·have hlv2':¬ (lv:Int) < 2:=by omega
     refine XC.pr [.ptr 0 0,iv (lv + 1:Nat)] (by simp) (ms:=r1) (n:=n) (by first | simp | omega) (by simp [coverQ,f0,gs0,-getElem?_pos]) (by simp -implicitDefEqProofs [f0,gs0,-getElem?_pos]) (hrow) (by simp [toO,f0,gs0,-getElem?_pos]) ⟨0,by simp [f0,gs0,-getElem?_pos]⟩ (by simp [lentO,f0,gs0,-getElem?_pos]) ?_ (tg:=.mk)
     rintro x cs - ⟨e2,ms2,hP2,rfl,hz3,hl3,rfl⟩
     obtain ⟨o2,nm2,tl2,ty2,num2,args2,pos2⟩:=e2
     simp -implicitDefEqProofs [f0,f1,f4,f5,wrOb,splice,evP,fillA,hw1,-Int.natCast_add,-getElem?_pos,gs0,gs1,gs2,gm,farP,hfar,hl0,hl2,exA,Ex.cells,hlv2',hlv2,dz,hl1',e0,e1,e2,f0',f1',endR_nil,finM]
     refine ⟨ms2.length,by omega,⟨op,[],[],0,(0,0),[.mk o nm tl ty num args pos,.mk o2 nm2 tl2 ty2 num2 args2 pos2],m.pos,ms2,rfl,hz3,by omega,fun r hr=>hP _ (.tail2 hst (by omega) (by rw [hrr]; exact hP2) hr),?_,?_⟩,by simp [f0],by simp [f1],by simp [f4],by simp [f5],?_⟩
     ·exact e0 _ _ _
     ·rw [e2]; simp [exsA,Ex.cells,W0]
     ·exact e1 _ _ _
  ·have g1:∀ o,(H.set 1 o)[1]? = some o:=fun o=>by rw [List.getElem?_set_self (by omega)]
   have g0:∀ o,(H.set 1 o)[0]? = some (.var (prs l (m :: r1) n)):=fun o=>by rw [List.getElem?_set_ne (by omega)]; exact hH0
   have hP':=hP _ (.stop _ _ _ (strN_not hs))
   simp -implicitDefEqProofs [f0,f1,f4,f5,hs,hH1,hH2,wrOb,splice,endR_nil,finM,g0,g1]
   exact ⟨by simp [prs],.mk o nm tl ty num args pos,m :: r1,hP',by simp [exA,Ex.cells],hz1,by simp only [List.length_cons]; omega,rfl⟩
end
end Go.Proofs.YtgddkgbidhhheaaGreatDoor
set_option linter.unusedVariables false
set_option linter.unusedSimpArgs false
set_option maxRecDepth 100000
namespace Go.Proofs.YtgddkgbidhhheaaGreatDoor
open Go.RowKit Flo Ab Mk Pg
section
variable {G:World→Prop} {l:Lim} {E:Int→Int→Prop} {n:Int} {Q:Res→Prop} {vs:List Vl} {is:List It} {L:Nat}
theorem lbinder_ok (hX:HXL G l L) (hn:0≤n) {m:M} {ms:List M} (hk:m.kind=1) (hB:isB m=true) (hz:Mz ms) (hlt:ms.length < L) (hb:n + ms.length≤50000) (hE:∀ w p,P l (.seq n (bindIts m) ms) (.bad w p)→E w p) :
  AM Tryz.prog (Gl G l E) 104 [.ptr 0 0,.agg (mcells m)] (prs l ms n) (fun x cs=>∃ e vs ms',P l (.seq n (bindIts m) ms) (.ok vs ms')∧bindEx m vs=[.e e]∧x=exA e∧Mz ms'∧ms'.length < ms.length∧cs=prs l ms' n):=by
 have hk':(m.kind:Int)=1:=by omega
 have hS0:SqL l n (P l (.seq n (bindIts m) ms)) [] (bindIts m) ms:=SqL.new hz
 refine AM.go hmix F_lbinder (by simp) ?_
 by_cases hc:m.text=tCase
 ·have hwc:=isW_of hk hc
  have hbi:bindIts m=[.e,.w tOf,.w tNil,.w sArrow,.e,.w sBar,.nm,.w sColon,.nm,.w sArrow,.e]:=by unfold bindIts; rw [hwc]; rfl
  have hbx:∀ x a b c d e f g h i y,bindEx m [.e x,a,b,c,.e d,e,.nm f,g,.nm h,i,.e y]=[.e (.mk 20 f.text h.text 0 (0,0) [x,d,y] m.pos)]:=fun _ _ _ _ _ _ _ _ _ _ _=>rfl
  rw [hbi] at hS0 hE ⊢
  simp -implicitDefEqProofs [c_lbinder,mcells,hk',wrOb,splice,evP,fillA,hc]
  refine SC.pr (by simp) [.ptr 0 0] (by simp) (ms:=ms) (n:=n) (by simp) (lexpr_sq hX hn hS0 hlt hb hE) (by simp [toO]) ⟨0,by simp⟩ (by simp [lentO]) ?_ (tg:=.mk)
  rintro x cs - ⟨e1,m1,rfl,rfl,hS1,hl1⟩
  obtain ⟨o1,nm1,tl1,ty1,num1,args1,pos1⟩:=e1
  simp -implicitDefEqProofs [exA,Ex.cells,wrOb,splice,evP,fillA]
  refine SC.pr (by simp) [.ptr 0 0,.row 5] (by simp) (ms:=m1) (n:=n) (by simp) (lmust_sq (E:=E) [tOf,tNil,sArrow] (by simp) (is:=[.e,.w sBar,.nm,.w sColon,.nm,.w sArrow,.e]) (by simpa using hS1) hE) (by simp [toO]) ⟨0,by simp⟩ (by simp [lentO]) ?_ (tg:=.mk)
  rintro x cs - ⟨rfl,m2,rfl,hS2,hl2⟩
  simp only [List.length_cons,List.length_nil,List.replicate_succ,List.replicate_zero] at hS2 hl2
  simp -implicitDefEqProofs
  refine SC.pr (by simp) [.ptr 0 0] (by simp) (ms:=m2) (n:=n) (by simp) (lexpr_sq hX hn hS2 (by omega) (by omega) hE) (by simp [toO]) ⟨0,by simp⟩ (by simp [lentO]) ?_ (tg:=.mk)
  rintro x cs - ⟨e2,m3,rfl,rfl,hS3,hl3⟩
  obtain ⟨o2,nm2,tl2,ty2,num2,args2,pos2⟩:=e2
  simp -implicitDefEqProofs [exA,Ex.cells,wrOb,splice,evP,fillA]
  refine SC.pr (by simp) [.ptr 0 0,.row 7] (by simp) (ms:=m3) (n:=n) (by simp) (lmust1 sBar hS3 hE) (by simp [toO]) ⟨0,by simp⟩ (by simp [lentO]) ?_ (tg:=.mk)
  rintro x cs - ⟨rfl,m4,rfl,hS4,hl4⟩
  simp -implicitDefEqProofs
  refine SC.pr (by simp) [.ptr 0 0] (by simp) (ms:=m4) (n:=n) (by simp) (lname_sq hS4 hE) (by simp [toO]) ⟨0,by simp⟩ (by simp [lentO]) ?_ (tg:=.mk)
  rintro x cs - ⟨f,m5,rfl,rfl,hS5,hl5⟩
  simp -implicitDefEqProofs [mcells,wrOb,splice,evP,fillA]
  refine SC.pr (by simp) [.ptr 0 0,.row 8] (by simp) (ms:=m5) (n:=n) (by simp) (lmust1 sColon hS5 hE) (by simp [toO]) ⟨0,by simp⟩ (by simp [lentO]) ?_ (tg:=.mk)
  rintro x cs - ⟨rfl,m6,rfl,hS6,hl6⟩
  simp -implicitDefEqProofs
  refine SC.pr (by simp) [.ptr 0 0] (by simp) (ms:=m6) (n:=n) (by simp) (lname_sq hS6 hE) (by simp [toO]) ⟨0,by simp⟩ (by simp [lentO]) ?_ (tg:=.mk)
  rintro x cs - ⟨h,m7,rfl,rfl,hS7,hl7⟩
  simp -implicitDefEqProofs [mcells,wrOb,splice,evP,fillA]
  refine SC.pr (by simp) [.ptr 0 0,.row 9] (by simp) (ms:=m7) (n:=n) (by simp) (lmust1 sArrow hS7 hE) (by simp [toO]) ⟨0,by simp⟩ (by simp [lentO]) ?_ (tg:=.mk)
  rintro x cs - ⟨rfl,m8,rfl,hS8,hl8⟩
  simp -implicitDefEqProofs [farP]
  refine XC.pr [.ptr 0 0] (by simp) (ms:=m8) (n:=n) (by first | simp | omega) (by simp [coverQ]) (by simp) (lexpr_sq hX hn hS8 (by omega) (by omega) hE) (by simp [toO]) ⟨0,by simp⟩ (by simp [lentO]) ?_ (tg:=.mk)
  rintro x cs - ⟨e3,m9,rfl,rfl,hS9,hl9⟩
  obtain ⟨o3,nm3,tl3,ty3,num3,args3,pos3⟩:=e3
  simp -implicitDefEqProofs [exA,Ex.cells,wrOb,splice,evP,fillA,dz,finM]
  refine ⟨by simp [prs],_,_,m9,hS9.end,hbx _ _ _ _ _ _ _ _ _ _ _,by simp [exA,Ex.cells,exsA,W0],hS9.1,by omega,rfl⟩
 ·have hwc:=isW_not hc
  have hbi:bindIts m=[.nm,.ty,.w sEq,.e,.w tIn,.e]:=by unfold bindIts; rw [hwc]; rfl
  rw [hbi] at hS0 hE ⊢
  have bc:=beq_eq_false_iff_ne.2 hc
  by_cases hs:m.text=tStrict
  ·have hws:=isW_of hk hs
   have hbx:∀ x t a e b y,bindEx m [.nm x,.ty t,a,.e e,b,.e y]=[.e (.mk 22 x.text [] t (0,0) [e,y] m.pos)]:=fun _ _ _ _ _ _=>by
    show [Vl.e (.mk (if isW m tStrict=true then 22 else 21) _ _ _ _ _ _)]=_
    rw [hws]; rfl
   simp -implicitDefEqProofs [c_lbinder,mcells,hk',wrOb,splice,evP,fillA,hs]
   refine SC.pr (by simp) [.ptr 0 0] (by simp) (ms:=ms) (n:=n) (by simp) (lname_sq hS0 hE) (by simp [toO]) ⟨0,by simp⟩ (by simp [lentO]) ?_ (tg:=.mk)
   rintro x cs - ⟨f,m1,rfl,rfl,hS1,hl1⟩
   simp -implicitDefEqProofs [mcells,wrOb,splice]
   refine SC.pr (by simp) [.ptr 0 0] (by simp) (ms:=m1) (n:=n) (by simp) (ltyp_sq hS1 hE) (by simp [toO]) ⟨0,by simp⟩ (by simp [lentO]) ?_ (tg:=.mk)
   rintro x cs - ⟨t,m2,rfl,rfl,hS2,hl2⟩
   simp -implicitDefEqProofs [mcells,wrOb,splice,evP,fillA]
   refine SC.pr (by simp) [.ptr 0 0,.row 4] (by simp) (ms:=m2) (n:=n) (by simp) (lmust1 sEq hS2 hE) (by simp [toO]) ⟨0,by simp⟩ (by simp [lentO]) ?_ (tg:=.mk)
   rintro x cs - ⟨rfl,m3,rfl,hS3,hl3⟩
   simp -implicitDefEqProofs
   refine SC.pr (by simp) [.ptr 0 0] (by simp) (ms:=m3) (n:=n) (by simp) (lexpr_sq hX hn hS3 (by omega) (by omega) hE) (by simp [toO]) ⟨0,by simp⟩ (by simp [lentO]) ?_ (tg:=.mk)
   rintro x cs - ⟨e2,m4,rfl,rfl,hS4,hl4⟩
   obtain ⟨o2,nm2,tl2,ty2,num2,args2,pos2⟩:=e2
   simp -implicitDefEqProofs [exA,Ex.cells,wrOb,splice,evP,fillA]
   refine SC.pr (by simp) [.ptr 0 0,.row 6] (by simp) (ms:=m4) (n:=n) (by simp) (lmust1 tIn hS4 hE) (by simp [toO]) ⟨0,by simp⟩ (by simp [lentO]) ?_ (tg:=.mk)
   rintro x cs - ⟨rfl,m5,rfl,hS5,hl5⟩
   simp -implicitDefEqProofs [farP]
   refine XC.pr [.ptr 0 0] (by simp) (ms:=m5) (n:=n) (by first | simp | omega) (by simp [coverQ]) (by simp) (lexpr_sq hX hn hS5 (by omega) (by omega) hE) (by simp [toO]) ⟨0,by simp⟩ (by simp [lentO]) ?_ (tg:=.mk)
   rintro x cs - ⟨e3,m9,rfl,rfl,hS9,hl9⟩
   obtain ⟨o3,nm3,tl3,ty3,num3,args3,pos3⟩:=e3
   simp -implicitDefEqProofs [exA,Ex.cells,wrOb,splice,evP,fillA,dz,finM]
   refine ⟨by simp [prs],_,_,m9,hS9.end,hbx _ _ _ _ _ _,by simp [exA,Ex.cells,exsA,W0],hS9.1,by omega,rfl⟩
  ·have hws:=isW_not hs
   have bs:=beq_eq_false_iff_ne.2 hs
   have hbx:∀ x t a e b y,bindEx m [.nm x,.ty t,a,.e e,b,.e y]=[.e (.mk 21 x.text [] t (0,0) [e,y] m.pos)]:=fun _ _ _ _ _ _=>by
    show [Vl.e (.mk (if isW m tStrict=true then 22 else 21) _ _ _ _ _ _)]=_
    rw [hws]; rfl
   simp -implicitDefEqProofs [c_lbinder,mcells,hk',wrOb,splice,evP,fillA,hc,hs,bc,bs]
   refine SC.pr (by simp) [.ptr 0 0] (by simp) (ms:=ms) (n:=n) (by simp) (lname_sq hS0 hE) (by simp [toO]) ⟨0,by simp⟩ (by simp [lentO]) ?_ (tg:=.mk)
   rintro x cs - ⟨f,m1,rfl,rfl,hS1,hl1⟩
   simp -implicitDefEqProofs [mcells,wrOb,splice]
   refine SC.pr (by simp) [.ptr 0 0] (by simp) (ms:=m1) (n:=n) (by simp) (ltyp_sq hS1 hE) (by simp [toO]) ⟨0,by simp⟩ (by simp [lentO]) ?_ (tg:=.mk)
   rintro x cs - ⟨t,m2,rfl,rfl,hS2,hl2⟩
   simp -implicitDefEqProofs [mcells,wrOb,splice,evP,fillA]
   refine SC.pr (by simp) [.ptr 0 0,.row 4] (by simp) (ms:=m2) (n:=n) (by simp) (lmust1 sEq hS2 hE) (by simp [toO]) ⟨0,by simp⟩ (by simp [lentO]) ?_ (tg:=.mk)
   rintro x cs - ⟨rfl,m3,rfl,hS3,hl3⟩
   simp -implicitDefEqProofs
   refine SC.pr (by simp) [.ptr 0 0] (by simp) (ms:=m3) (n:=n) (by simp) (lexpr_sq hX hn hS3 (by omega) (by omega) hE) (by simp [toO]) ⟨0,by simp⟩ (by simp [lentO]) ?_ (tg:=.mk)
   rintro x cs - ⟨e2,m4,rfl,rfl,hS4,hl4⟩
   obtain ⟨o2,nm2,tl2,ty2,num2,args2,pos2⟩:=e2
   simp -implicitDefEqProofs [exA,Ex.cells,wrOb,splice,evP,fillA]
   refine SC.pr (by simp) [.ptr 0 0,.row 6] (by simp) (ms:=m4) (n:=n) (by simp) (lmust1 tIn hS4 hE) (by simp [toO]) ⟨0,by simp⟩ (by simp [lentO]) ?_ (tg:=.mk)
   rintro x cs - ⟨rfl,m5,rfl,hS5,hl5⟩
   simp -implicitDefEqProofs [farP]
   refine XC.pr [.ptr 0 0] (by simp) (ms:=m5) (n:=n) (by first | simp | omega) (by simp [coverQ]) (by simp) (lexpr_sq hX hn hS5 (by omega) (by omega) hE) (by simp [toO]) ⟨0,by simp⟩ (by simp [lentO]) ?_ (tg:=.mk)
   rintro x cs - ⟨e3,m9,rfl,rfl,hS9,hl9⟩
   obtain ⟨o3,nm3,tl3,ty3,num3,args3,pos3⟩:=e3
   simp -implicitDefEqProofs [exA,Ex.cells,wrOb,splice,evP,fillA,dz,finM]
   refine ⟨by simp [prs],_,_,m9,hS9.end,hbx _ _ _ _ _ _,by simp [exA,Ex.cells,exsA,W0],hS9.1,by omega,rfl⟩
end
end Go.Proofs.YtgddkgbidhhheaaGreatDoor
set_option linter.unusedVariables false
set_option linter.unusedSimpArgs false
set_option maxRecDepth 100000
namespace Go.Proofs.YtgddkgbidhhheaaGreatDoor
open Go.RowKit Flo Ab Mk Pg
@[reducible] def Ge (G:World→Prop) (l:Lim) (E:Int→Int→Prop):Gs:=⟨G,fun x H=>∃ (w p:Int) (ms:List M) (n:Int),x=faultA w p∧E w p∧H[0]? = some (.var (prs l ms n))∧H[1]? = some (.var [.ptr 0 0]),fun _=>none⟩
def okE (ls:DL):Prop:=ls=[]∨ls=[(103,[.ptr 1 0])]
section
variable {G:World→Prop} {l:Lim} {E:Int→Int→Prop} {n:Int} {Q:Res→Prop} {vs:List Vl} {is:List It} {L:Nat}
theorem lexpr1_settle {H:List Ob} {ms:List M} (hH0:H[0]? = some (.var (prs l ms n))) (hH1:H[1]? = some (.var [.ptr 0 0])) {m:AMode} (hm:settleA m=m) {K:AMode→List Ob→Prop} (hK:K m (H.set 0 (.var (prs l ms (IntKind.i64.wrap (n - 1)))))) :
  Settle Tryz.prog (Gl G l E) [(103,[.ptr 1 0])] m H K:=by
 unfold Settle
 show DAC Tryz.prog (.np G) _ _ _ _ _
 refine DAC.go hmix F_lexpr1 (fun _=>rfl) (fun _ _ h=>h) (by simp) ?_
 simp -implicitDefEqProofs [-settleA,c_lexpr1,hH0,hH1,prs,wrOb,splice,Settle]
 rw [hm]
 exact hK
theorem lexpr_ok (hX:HXL G l L) (hR:RowC G l L) {ms:List M} (hz:Mz ms) (hlt:ms.length≤L):GCL G 69 l .expr ms:=by
 intro n E hn hb hE
 obtain ⟨m,r,rfl⟩:=hz.cons
 have hlen:(m :: r).length=r.length + 1:=by simp
 show AM _ _ _ _ _ (OutL l .expr n (m :: r))
 refine AM.goX (Gs0:=Gl G l E) hmix F_lexpr (Gi:=Ge G l E) (okD:=okE) (fun _ h=>h) (.inl rfl) (by simp) ?_ ?_
 ·rintro ls x H (rfl | rfl) ⟨w,p,ms,n',rfl,hEw,hH0,hH1⟩
  ·unfold Settle
   exact .inr ⟨_,rfl,w,p,ms,n',rfl,hEw,hH0⟩
  ·refine lexpr1_settle hH0 hH1 rfl (.inr ⟨_,rfl,w,p,ms,IntKind.i64.wrap (n' - 1),rfl,hEw,?_⟩)
   rw [List.getElem?_set_self (List.getElem?_eq_some_iff.1 hH0).1]
 have htx:=hz.txt m (by simp)
 have hrow:isB m=false→isW m tIf=false→AM Tryz.prog (Gl G l E) 102 [.ptr 0 0,iv 0] (prs l (m :: r) n) (OutL l .expr n (m :: r)):=fun h1 h2=>by
  refine AM.mono (hR 0 (m :: r) n E (by omega) hz hlt hn hb (fun w p h=>hE w p (.expr h1 h2 h))) ?_
  rintro x cs ⟨e,ms',hP,h⟩
  exact ⟨e,ms',.expr h1 h2 hP,h⟩
 simp -implicitDefEqProofs [c_lexpr]
 refine SC.prG (Gi:=Ge G l E) (l:=l) (E:=E) (fun _ h=>h) (by simp) [.ptr 0 0] (by simp) (ms:=m :: r) (n:=n) (by simp) (lnext_ap m r n) (by simp [toO]) ⟨0,by simp⟩ (by simp [lentO]) (fun w p ms' n' hE=>⟨w,p,ms',n',rfl,hE,by simp -implicitDefEqProofs [],by simp -implicitDefEqProofs []⟩) (KeepF.none _) ?_ (tg:=.mk)
 rintro x cs - ⟨rfl,rfl⟩
 by_cases k1:m.kind=1
 ·have k1':(m.kind:Int)=1:=by omega
  simp -implicitDefEqProofs [mcells,k1']
  refine SC.prG (Gi:=Ge G l E) (l:=l) (E:=E) (fun _ h=>h) (by simp) [.ptr 0 0] (by simp) (ms:=m :: r) (n:=n) (by simp) (lnext_ap m r n) (by simp [toO]) ⟨0,by simp⟩ (by simp [lentO]) (fun w p ms' n' hE=>⟨w,p,ms',n',rfl,hE,by simp -implicitDefEqProofs [],by simp -implicitDefEqProofs []⟩) (KeepF.none _) ?_ (tg:=.mk)
  rintro x cs - ⟨rfl,rfl⟩
  simp -implicitDefEqProofs [mcells,k1']
  refine SC.prG (Gi:=Ge G l E) (l:=l) (E:=E) (fun _ h=>h) (by simp) [.ptr 0 0] (by simp) (ms:=m :: r) (n:=n) (by simp) (lnext_ap m r n) (by simp [toO]) ⟨0,by simp⟩ (by simp [lentO]) (fun w p ms' n' hE=>⟨w,p,ms',n',rfl,hE,by simp -implicitDefEqProofs [],by simp -implicitDefEqProofs []⟩) (KeepF.none _) ?_ (tg:=.mk)
  rintro x cs - ⟨rfl,rfl⟩
  simp -implicitDefEqProofs [mcells,k1']
  have hz2:=hz.tail (by omega)
  have hwn:IntKind.i64.wrap (n + 1)=n + 1:=wrap64 _ (by simp only [List.length_cons] at hb; omega)
  have hwm:IntKind.i64.wrap (n + 1 - 1)=n:=by rw [show n + 1 - 1=n by omega]; exact wrap64 _ (by simp only [List.length_cons] at hb; omega)
  by_cases hB:isB m=true
  ·have htxt:m.text=tLet∨m.text=tStrict∨m.text=tCase:=by
    unfold isB at hB
    rw [isW_word k1,isW_word k1,isW_word k1] at hB
    simpa [or_assoc] using hB
   by_cases hnl:l.nest≤n
   ·have hgive:AM Tryz.prog (Gl G l E) 98 [.ptr 0 0,iv 23] (prs l (m :: r) n) (fun x cs=>False):=lgive_ap m r n 23 (hE _ _ (.deep _ hB hnl))
    rcases htxt with ht | ht | ht
    all_goals
     simp -implicitDefEqProofs [ht,prs,hnl]
     refine SC.prG (Gi:=Ge G l E) (l:=l) (E:=E) (fun _ h=>h) (by simp) [.ptr 0 0,iv 23] (by simp) (ms:=m :: r) (n:=n) (by simp -implicitDefEqProofs [prs]) (hgive) (by simp [toO,prs]) ⟨0,by simp [prs]⟩ (by simp [lentO,prs]) (fun w p ms' n' hE=>⟨w,p,ms',n',rfl,hE,by simp -implicitDefEqProofs [prs],by simp -implicitDefEqProofs [prs]⟩) (KeepF.none _) ?_ (tg:=.mk)
     rintro x cs - hf
     exact hf.elim
   ·have hbd:=lbinder_ok (G:=G) (E:=E) (n:=n + 1) hX (by omega) k1 hB hz2 (by simp only [List.length_cons] at hlt; omega) (by simp only [List.length_cons] at hb; omega) (fun w p h=>hE w p (.bind hB (by omega) h))
    rw [show mcells m=[iv m.kind,sv m.text,cv (W m.num.1) (W m.num.2),iv m.pos] from rfl] at hbd
    rcases htxt with ht | ht | ht
    all_goals
     simp -implicitDefEqProofs [ht,prs,hnl,wrOb,splice,hwn]
     refine ⟨.inr rfl,?_,?_,?_⟩
     all_goals
      refine SC.prG (Gi:=Ge G l E) (l:=l) (E:=E) (fun _ h=>h) (by simp) [.ptr 0 0] (by simp) (ms:=m :: r) (n:=n + 1) (by simp -implicitDefEqProofs [prs]) (lstep_ap m r (n + 1)) (by simp [toO,prs]) ⟨0,by simp [prs]⟩ (by simp [lentO,prs]) (fun w p ms' n' hE=>⟨w,p,ms',n',rfl,hE,by simp -implicitDefEqProofs [prs],by simp -implicitDefEqProofs [prs]⟩) (KeepF.none _) ?_ (tg:=.mk)
      rintro x cs - ⟨rfl,rfl⟩
      simp -implicitDefEqProofs [mcells]
      refine SC.prG (Gi:=Ge G l E) (l:=l) (E:=E) (fun _ h=>h) (by simp) [.ptr 0 0,.agg [iv m.kind,sv m.text,cv (W m.num.1) (W m.num.2),iv m.pos]] (by simp) (ms:=r) (n:=n + 1) (by simp) (hbd) (by simp [toO]) ⟨0,by simp⟩ (by simp [lentO]) (fun w p ms' n' hE=>⟨w,p,ms',n',rfl,hE,by simp -implicitDefEqProofs [],by simp -implicitDefEqProofs []⟩) (KeepF.none _) ?_ (tg:=.mk)
      rintro x cs - ⟨e,vs,ms',hPs,hbx,rfl,hz',hl',rfl⟩
      obtain ⟨o,nm,tl,ty,num,args,pos⟩:=e
      have hPe:P l (.expr n (m :: r)) (.ok [.e (.mk o nm tl ty num args pos)] ms'):=by
       have:=P.bind hB (by omega) hPs
       rwa [show (Res.ok vs ms').map (bindEx m)=.ok (bindEx m vs) ms' from rfl,hbx] at this
      simp -implicitDefEqProofs [exA,Ex.cells,wrOb,splice]
      unfold endR
      refine lexpr1_settle (ms:=ms') (n:=n + 1) rfl rfl rfl ⟨rfl,?_⟩
      rw [hwm]
      simp -implicitDefEqProofs [finM]
      exact ⟨by simp [prs],.mk o nm tl ty num args pos,ms',hPe,by simp [exA,Ex.cells],hz',by simp only [List.length_cons]; omega,rfl⟩
  ·have hBf:isB m=false:=by simpa using hB
   have hn3:m.text≠tLet∧m.text≠tStrict∧m.text≠tCase:=by
    unfold isB at hBf
    rw [isW_word k1,isW_word k1,isW_word k1] at hBf
    simpa [and_assoc] using hBf
   obtain ⟨n1,n2,n3⟩:=hn3
   have c1:=beq_eq_false_iff_ne.2 n1
   have c2:=beq_eq_false_iff_ne.2 n2
   have c3:=beq_eq_false_iff_ne.2 n3
   by_cases hif:m.text=tIf
   ·have hwi:=isW_of k1 hif
    simp only [List.length_cons] at hlt hb
    have hS0:SqL l n (fun r0=>P l (.expr n (m :: r)) (r0.map (ifEx m))) [] [.e,.w tThen,.e,.w tElse,.e] r:=⟨hz2,fun r0 h=>.cond hwi h⟩
    have hE0:∀ w p,P l (.expr n (m :: r)) (.bad w p)→E w p:=hE
    simp -implicitDefEqProofs [c1,c2,c3,hif]
    refine SC.prG (Gi:=Ge G l E) (l:=l) (E:=E) (fun _ h=>h) (by simp) [.ptr 0 0] (by simp) (ms:=m :: r) (n:=n) (by simp) (lstep_ap m r n) (by simp [toO]) ⟨0,by simp⟩ (by simp [lentO]) (fun w p ms' n' hE=>⟨w,p,ms',n',rfl,hE,by simp -implicitDefEqProofs [],by simp -implicitDefEqProofs []⟩) (KeepF.none _) ?_ (tg:=.mk)
    rintro x cs - ⟨rfl,rfl⟩
    simp -implicitDefEqProofs
    refine SC.prG (Gi:=Ge G l E) (l:=l) (E:=E) (fun _ h=>h) (by simp) [.ptr 0 0] (by simp) (ms:=r) (n:=n) (by simp) (lexpr_sq hX hn hS0 (by omega) (by omega) hE0) (by simp [toO]) ⟨0,by simp⟩ (by simp [lentO]) (fun w p ms' n' hE=>⟨w,p,ms',n',rfl,hE,by simp -implicitDefEqProofs [],by simp -implicitDefEqProofs []⟩) (KeepF.none _) ?_ (tg:=.mk)
    rintro x cs - ⟨e1,m1,rfl,rfl,hS1,hl1⟩
    obtain ⟨o1,nm1,tl1,ty1,num1,args1,pos1⟩:=e1
    simp -implicitDefEqProofs [exA,Ex.cells,wrOb,splice,evP,fillA]
    refine SC.prG (Gi:=Ge G l E) (l:=l) (E:=E) (fun _ h=>h) (by simp) [.ptr 0 0,.row 4] (by simp) (ms:=m1) (n:=n) (by simp) (lmust1 tThen hS1 hE0) (by simp [toO]) ⟨0,by simp⟩ (by simp [lentO]) (fun w p ms' n' hE=>⟨w,p,ms',n',rfl,hE,by simp -implicitDefEqProofs [],by simp -implicitDefEqProofs []⟩) (KeepF.none _) ?_ (tg:=.mk)
    rintro x cs - ⟨rfl,m2,rfl,hS2,hl2⟩
    simp -implicitDefEqProofs
    refine SC.prG (Gi:=Ge G l E) (l:=l) (E:=E) (fun _ h=>h) (by simp) [.ptr 0 0] (by simp) (ms:=m2) (n:=n) (by simp) (lexpr_sq hX hn hS2 (by omega) (by omega) hE0) (by simp [toO]) ⟨0,by simp⟩ (by simp [lentO]) (fun w p ms' n' hE=>⟨w,p,ms',n',rfl,hE,by simp -implicitDefEqProofs [],by simp -implicitDefEqProofs []⟩) (KeepF.none _) ?_ (tg:=.mk)
    rintro x cs - ⟨e2,m3,rfl,rfl,hS3,hl3⟩
    obtain ⟨o2,nm2,tl2,ty2,num2,args2,pos2⟩:=e2
    simp -implicitDefEqProofs [exA,Ex.cells,wrOb,splice,evP,fillA]
    refine SC.prG (Gi:=Ge G l E) (l:=l) (E:=E) (fun _ h=>h) (by simp) [.ptr 0 0,.row 6] (by simp) (ms:=m3) (n:=n) (by simp) (lmust1 tElse hS3 hE0) (by simp [toO]) ⟨0,by simp⟩ (by simp [lentO]) (fun w p ms' n' hE=>⟨w,p,ms',n',rfl,hE,by simp -implicitDefEqProofs [],by simp -implicitDefEqProofs []⟩) (KeepF.none _) ?_ (tg:=.mk)
    rintro x cs - ⟨rfl,m4,rfl,hS4,hl4⟩
    simp -implicitDefEqProofs [farP]
    refine XC.prG (Gi:=Ge G l E) (l:=l) (E:=E) (fun _ h=>h) [.ptr 0 0] (by simp) (ms:=m4) (n:=n) (by first | simp | omega) (by simp [coverQ]) (by simp) (lexpr_sq hX hn hS4 (by omega) (by omega) hE0) (by simp [toO]) ⟨0,by simp⟩ (by simp [lentO]) (fun w p ms' n' hE=>⟨w,p,ms',n',rfl,hE,by simp -implicitDefEqProofs [],by simp -implicitDefEqProofs []⟩) ?_ (tg:=.mk)
    rintro x cs - ⟨e3,m5,rfl,rfl,hS5,hl5⟩
    obtain ⟨o3,nm3,tl3,ty3,num3,args3,pos3⟩:=e3
    simp -implicitDefEqProofs [exA,Ex.cells,wrOb,splice,evP,fillA,dz,finM,endR_nil]
    exact ⟨by simp [prs],.mk 19 [] [] 0 (0,0) [.mk o1 nm1 tl1 ty1 num1 args1 pos1,.mk o2 nm2 tl2 ty2 num2 args2 pos2,.mk o3 nm3 tl3 ty3 num3 args3 pos3] m.pos,m5,hS5.end,by simp [exA,Ex.cells,exsA,W0],hS5.1,by simp only [List.length_cons]; omega,rfl⟩
   ·have c4:=beq_eq_false_iff_ne.2 hif
    simp -implicitDefEqProofs [c1,c2,c3,c4]
    refine SC.prG (Gi:=Ge G l E) (l:=l) (E:=E) (fun _ h=>h) (by simp) [.ptr 0 0,iv 0] (by simp) (ms:=m :: r) (n:=n) (by simp) (hrow hBf (isW_not hif)) (by simp [toO]) ⟨0,by simp⟩ (by simp [lentO]) (fun w p ms' n' hE=>⟨w,p,ms',n',rfl,hE,by simp -implicitDefEqProofs [],by simp -implicitDefEqProofs []⟩) (KeepF.none _) ?_ (tg:=.mk)
    rintro x cs - hO
    have hO':=hO
    obtain ⟨e,ms',hP,rfl,hz',hl',rfl⟩:=hO
    obtain ⟨o,nm,tl,ty,num,args,pos⟩:=e
    simp -implicitDefEqProofs [exA,Ex.cells,wrOb,splice,endR_nil,finM]
    exact ⟨by simp [prs],hO'⟩
 ·have k1':¬ (m.kind:Int)=1:=by omega
  have key:∀ s ∈ resv,isW m s=false:=fun s hs=>isW_resv htx hs k1
  have hBf:isB m=false:=by unfold isB; rw [key _ (by decide),key _ (by decide),key _ (by decide)]; rfl
  simp -implicitDefEqProofs [mcells,k1',k1]
  refine SC.prG (Gi:=Ge G l E) (l:=l) (E:=E) (fun _ h=>h) (by simp) [.ptr 0 0,iv 0] (by simp) (ms:=m :: r) (n:=n) (by simp) (hrow hBf (key _ (by decide))) (by simp [toO]) ⟨0,by simp⟩ (by simp [lentO]) (fun w p ms' n' hE=>⟨w,p,ms',n',rfl,hE,by simp -implicitDefEqProofs [],by simp -implicitDefEqProofs []⟩) (KeepF.none _) ?_ (tg:=.mk)
  rintro x cs - hO
  have hO':=hO
  obtain ⟨e,ms',hP,rfl,hz',hl',rfl⟩:=hO
  obtain ⟨o,nm,tl,ty,num,args,pos⟩:=e
  simp -implicitDefEqProofs [exA,Ex.cells,wrOb,splice,endR_nil,finM]
  exact ⟨by simp [prs],hO'⟩
end
end Go.Proofs.YtgddkgbidhhheaaGreatDoor
set_option linter.unusedVariables false
set_option linter.unusedSimpArgs false
set_option maxRecDepth 100000
namespace Go.Proofs.YtgddkgbidhhheaaGreatDoor
open Go.RowKit Flo Ab Mk Pg
section
variable {G:World→Prop} {all:List M} {l:Lim} {b:Nat} {n:Int}
theorem strOf_at {m:M} {s:List UInt8} (h:isW m s=true):strOf m=(if s=sColon then some (0,18) else if s=sEqEq then some (1,12) else if s=sLess then some (1,13) else if s=sPlus then some (2,8) else if s=sMinus then some (2,9) else if s=sStar then some (3,10) else if s=sSlash then some (3,11) else none):=by
 have e:∀ t,isW m t=decide (s=t):=fun t=>by
  by_cases ht:s=t
  ·subst ht; simpa using h
  ·rw [isW_other h ht]; simp [ht]
 unfold strOf
 simp only [e,decide_eq_true_eq]
theorem strOf_lv {m:M} {lv:Nat} {op:Int} (h:strOf m=some (lv,op)):(lv=0→isW m sColon=true)∧(lv=1→isW m sEqEq=true∨isW m sLess=true)∧(lv=2→isW m sPlus=true∨isW m sMinus=true)∧(lv=3→isW m sStar=true∨isW m sSlash=true):=by
 unfold strOf at h
 repeat' split at h
 all_goals (cases h<;>simp_all)
theorem str_not {m:M} {lv:Nat} (h:∀ op,strOf m≠some (lv,op)):(strOf m).map (·.1)≠some lv:=by
 cases hs:strOf m with
 | none=>simp
 | some q=>obtain ⟨a,op⟩:=q; simp only [Option.map_some,ne_eq,Option.some.injEq]; rintro rfl; exact h op hs
def TmI (l:Lim) (all:List M) (b:Nat) (n:Int) (lv:Nat) (e:Ex) (a:Nat) (w p n':Int):Prop:=
 a < all.length∧((w=0∧p=0∧n'=n∧b < a∧∀ r,P l (.tail n lv e (all.drop a)) r→P l (.row n lv (all.drop b)) r)∨(w≠0∧P l (.row n lv (all.drop b)) (.bad w p)))
def Lv (lv:Nat) (n:Int) (ms:List M):Job:=.row n lv ms
end
end Go.Proofs.YtgddkgbidhhheaaGreatDoor
