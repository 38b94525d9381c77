/- Texts joined: Prh Pri. -/
import Derived.Test.YtgddkgbidhhheaaGreatDoorKtay
set_option linter.unusedVariables false
set_option linter.unusedSimpArgs false
set_option maxRecDepth 100000
namespace Go.Proofs.YtgddkgbidhhheaaGreatDoor
open Go.RowKit Flo Ab Mk Pg
namespace Ab
section
variable {P:Program} {G:World→Prop}
theorem AC.dzv {f:FuncId} {args:List AV} {objs:List Ob} {post:AV→List Ob→Prop} (j:Nat) (hp:∃ off,AV.ptr j off ∈ args)
  (h:AC P G f args objs (fun x H=>∃ cs,H[j]? = some (.var cs)∧post x ((frzL H cs).1.set j (.var (frzL H cs).2)))):AC P G f args objs post:=by
 intro w0 c vs hG hS ⟨hl,ha⟩
 obtain ⟨off,hm⟩:=hp
 obtain ⟨q,hq⟩:=List.getElem?_of_mem hm
 obtain ⟨u0,_,hr0⟩:=ha q _ hq
 have hbn:c.born j:=hr0.inv_ptr.2
 refine (h w0 c vs hG hS ⟨hl,ha⟩).mono ?_
 rintro e w' (⟨c1,u,x,H,e1,rfl,t1,s1,v1,cs,hj,hpost⟩ | ⟨_,_,_,_,_,_,_,_,_,_,_,hpan⟩)
 case inr=>exact hpan.elim
 have hb1:c1.born j:=t1.le.born j hbn
 obtain ⟨us,T,b1,b2,b3⟩:∃ (us:List Value) (T:TypeId),c1.w.heap[c1.β j]? = some (.cells us.toArray T (0,0))∧RL c1 cs us∧c1.M (c1.β j):=by
  rcases s1.ob j _ hj with ⟨_,h⟩ | ⟨hn,_⟩
  ·exact h
  ·exact absurd hb1 hn
 obtain ⟨c2,e2,s2,t2,r2⟩:=frzL_ok cs s1 b2
 have hj2:(frzL H cs).1[j]? = some (.var cs):=frzL_var cs hj
 have hb2:=t2.le.born j hb1
 obtain ⟨H2,hH2⟩:∃ H2,(frzL H cs).1=H2:=⟨_,rfl⟩
 obtain ⟨cs',hcs'⟩:∃ cs',(frzL H cs).2=cs':=⟨_,rfl⟩
 rw [hH2] at hj2 s2 t2 hpost
 rw [hcs'] at r2 hpost
 have hlt:j < H2.length:=(List.getElem?_eq_some_iff.1 hj2).1
 obtain ⟨us',T',d1,d2,d3⟩:∃ (us:List Value) (T:TypeId),c2.w.heap[c2.β j]? = some (.cells us.toArray T (0,0))∧RL c2 cs us∧c2.M (c2.β j):=by
  rcases s2.ob j _ hj2 with ⟨_,h⟩ | ⟨hn,_⟩
  ·exact h
  ·exact absurd hb2 hn
 have hβ:c2.β j=c1.β j:=t2.le.β j hb1
 have hus:us'=us:=by
  rw [e2,hβ,b1] at d1
  simp only [Option.some.injEq,Obj.cells.injEq] at d1
  exact (Array.toList_inj.2 d1.1).symm
 subst hus
 have hob:∀ (i:Nat) (o:Ob),(H2.set j (.var cs'))[i]? = some o→o.live=true→∃ o1,H2[i]? = some o1∧o1.live=true:=fun i o ho hlv=>by
  by_cases hij:j=i
  ·subst hij; exact ⟨_,hj2,rfl⟩
  ·rw [List.getElem?_set_ne hij] at ho; exact ⟨o,ho,hlv⟩
 have hwr:∀ b,Wr c2 (H2.set j (.var cs')) b→Wr c2 H2 b:=fun b ⟨i,o,ho,hlv,hb,he⟩=>by
  obtain ⟨o1,h1,h2⟩:=hob i o ho hlv
  exact ⟨i,o1,h1,h2,hb,he⟩
 have hst:Step c2 H2 c2 (H2.set j (.var cs')):=⟨.refl c2,rfl,rfl,rfl,fun _ _ _=>rfl,fun _ _ h=>h,fun _ _ _ h=>h,fun b hb=>.inl (hwr b hb),Nat.le_refl _,fun _ _ h=>h⟩
 refine .inl ⟨c2,u,x,_,e2.trans e1,rfl,t1.trans (t2.trans hst),⟨by rw [List.length_set]; exact s2.k,s2.bl,fun i o ho=>?_,fun i k oi ok hi hk li lk ni nk he=>?_,fun b hb=>s2.base b (hwr b hb),s2.mlt,s2.below⟩,v1.le t2.le,hpost⟩
 ·by_cases hij:j=i
  ·subst hij
   rw [List.getElem?_set_self hlt] at ho
   cases ho
   exact .inl ⟨hb2,us',T',d1,r2,d3⟩
  ·rw [List.getElem?_set_ne hij] at ho
   exact s2.ob i o ho
 ·obtain ⟨o1,a1,a2⟩:=hob i oi hi li
  obtain ⟨o2,b1,b2⟩:=hob k ok hk lk
  exact s2.inj i k o1 o2 a1 b1 a2 b2 ni nk he
def AM2 (P:Program) (G:World→Prop) (f:FuncId) (args:List AV) (cs ds:List AV) (post:AV→List AV→List AV→Prop):Prop:=AMs P G f args [cs,ds] (fun x css=>∃ cs' ds',css=[cs',ds']∧post x cs' ds')
def finN (post:AV→List AV→List AV→Prop) (x:AV) (H:List Ob):Prop:=deepV (frzV H x).2=true∧∃ cs ds,(frzV H x).1[0]? = some (.var cs)∧(frzV H x).1[1]? = some (.var ds)∧cs.all deep1=true∧ds.all deep1=true∧post (frzV H x).2 cs ds
def finM2 (post:AV→List AV→List AV→Prop) (x:AV) (H:List Ob):Prop:=∃ cs,H[1]? = some (.var cs)∧finN post x ((frzL H cs).1.set 1 (.var (frzL H cs).2))
theorem AM2.go (hmix:P.follows .mixedOrders=true) {f:FuncId} {N:Nat} {ac:ACode} {sl:List RSlot} (hf:Fun P f N ac sl) {args:List AV} {cs ds:List AV} {post:AV→List AV→List AV→Prop} (hN:args.length≤N) (h1:∃ off,AV.ptr 1 off ∈ args)
  (h:aw P G N ac (retQ sl (finM2 post)) (argF args) [.var cs,.var ds]):AM2 P G f args cs ds post:=by
 rw [aw_is] at h
 refine AC.mono (AC.dzv (post:=finN post) 1 h1 (AC.mono (AC.of hmix hf hN h) (fun x H hq=>hq))) (fun x H hq=>?_)
 obtain ⟨h1,cs',ds',h2,h3,h4,h5,h6⟩:=hq
 exact ⟨h1,[cs',ds'],rfl,fun j cs0 hj=>by
  match j with
  | 0=>cases hj; exact ⟨h2,h4⟩
  | 1=>cases hj; exact ⟨h3,h5⟩
  | j + 2=>simp at hj,cs',ds',rfl,h6⟩
theorem SC.lent2 {N:Nat} {F:Fr} {H:List Ob} {K:Fr→List Ob→Prop} {d:Option Nat} (hdN:∀ t,d=some t→t < N) {f:FuncId} {args:List Opd} (xs:List AV) (hx:evA F args=some xs) (i j:Nat) (hij:i≠j) (cs ds:List AV) {post:AV→List AV→List AV→Prop}
  (hi:(frzT H xs).1[i]? = some (.var cs)) (hj:(frzT H xs).1[j]? = some (.var ds)) (hcs:cs.all deep1=true) (hds:ds.all deep1=true) (hA:AM2 P G f ((frzT H xs).2.map (toO [i,j])) cs ds post) (hp:∃ off,AV.ptr i off ∈ (frzT H xs).2) (hq:∃ off,AV.ptr j off ∈ (frzT H xs).2)
  (hd:(frzT H xs).2.all (lentO [i,j])=true) (hK:∀ x cs' ds',cs'.all deep1=true→ds'.all deep1=true→post x cs' ds'→K (putF F d x) (((frzT H xs).1.set i (.var cs')).set j (.var ds'))) {a:Tag K}:SC P G N d f args F H K a:=by
 refine SCall.lendM hdN hx (ids:=[i,j]) (css:=[cs,ds]) rfl (by simp [hij]) (fun k k' cs0 hk hc=>?_) (fun cs0 h0=>?_) (fun k hk=>?_) hA hd (fun x css' hl hall hpost=>?_)
 ·match k with
  | 0=>cases hk; cases hc; exact hi
  | 1=>cases hk; cases hc; exact hj
  | k + 2=>simp at hk
 ·simp only [List.mem_cons,List.not_mem_nil,or_false] at h0
  rcases h0 with rfl | rfl
  ·exact hcs
  ·exact hds
 ·simp only [List.mem_cons,List.not_mem_nil,or_false] at hk
  rcases hk with rfl | rfl
  ·exact hp
  ·exact hq
 ·obtain ⟨cs',ds',rfl,hpost⟩:=hpost
  exact hK x cs' ds' (hall cs' (by simp)) (hall ds' (by simp)) hpost
end
end Ab
section
variable {G:World→Prop} {all:List M} {l:Lim} {b:Nat} {n:Int} {Q:Res→Prop}
def itsP:List (List UInt8)→List It
 | []=>[]
 | w :: ws=>if w=[] then .e :: itsP ws else .w w :: .e :: itsP ws
def partV (w:List UInt8) (e:Ex):List Vl:=if w=[] then [.e e] else [.u,.e e]
def partsV:List (List UInt8)→List Ex→List Vl
 | w :: ws,e :: es=>partV w e++partsV ws es
 | _,_=>[]
theorem partsV_snoc:∀ (ws:List (List UInt8)) (es:List Ex) (w:List UInt8) (e:Ex),ws.length=es.length→partsV (ws++[w]) (es++[e])=partsV ws es++partV w e
 | [],[],w,e,_=>by simp [partsV]
 | w0 :: ws,e0 :: es,w,e,h=>by
  rw [List.cons_append,List.cons_append,partsV,partsV_snoc ws es w e (by simpa using h),partsV,List.append_assoc]
 | [],e0 :: es,w,e,h=>by simp at h
 | w0 :: ws,[],w,e,h=>by simp at h
def partR (es:List Ex) (H:List Ob) (X:AV):Prop:=(es=[]∧X=.v (.slice none 0 0))∨∃ r,0 < r∧X=.row r∧es≠[]∧H[r]? = some (.own 55 7 es.length (exsA es))
def PrtI (l:Lim) (all:List M) (b:Nat) (n:Int) (Q:Res→Prop) (vs:List Vl) (ws:List (List UInt8)) (g:Nat) (F:Fr) (H:List Ob):Prop:=
 ∃ (k:Nat) (es:List Ex) (a:Nat) (w p n':Int) (X:AV),k + g=ws.length∧es.length=k∧Sq l all b n Q (vs++partsV (ws.take k) es) (itsP (ws.drop k)) a w p n'∧F 0=some (.ptr 0 0)∧F 1=some (.sl ws.length (ws.map sv))∧F 5=some X∧F 6=some (iv k)∧H[0]? = some (.var (rdr all l a w p n'))∧partR es H X
theorem parts_ok (hm:Mks all) (hX:HX G all l b) (hn:0≤n∧n≤b + 1) {vs:List Vl} {ws:List (List UInt8)} (hws:ws.length≤10) {a:Nat} {w p n':Int} (h:Sq l all b n Q vs (itsP ws) a w p n') :
  AM Tryz.prog G 112 [.ptr 0 0,.sl ws.length (ws.map sv)] (rdr all l a w p n') (fun x cs=>∃ es:List Ex,x=.sl es.length (exsA es)∧es.length=ws.length∧∃ (a:Nat) (w p n':Int),cs=rdr all l a w p n'∧Sq l all b n Q (vs++partsV ws es) [] a w p n'):=by
 refine AM.go hmix F_pparts (by simp) ?_
 simp -implicitDefEqProofs [c_pparts]
 refine LP.go (PrtI l all b n Q vs ws) ws.length ⟨0,[],a,w,p,n',.v (.slice none 0 0),by omega,rfl,by simpa [partsV] using h,by simp,by simp,by simp,by simp,by simp,.inl ⟨rfl,rfl⟩⟩ ?_
 unfold c_pparts_L0
 rintro g F H ⟨k,es,a,w,p,n',X,hk,hel,hS,f0,f1,f5,f6,hH0,hR⟩
 have hl0:0 < H.length:=(List.getElem?_eq_some_iff.1 hH0).1
 by_cases hkl:(k:Int) < ws.length
 ·have hkl':k < ws.length:=by omega
  obtain ⟨s,hs⟩:∃ s,ws[k]? = some s:=⟨_,List.getElem?_eq_getElem hkl'⟩
  have hcs:(ws.map sv)[k]? = some (sv s):=by rw [List.getElem?_map,hs]; rfl
  have hdr:ws.drop k=s :: ws.drop (k + 1):=by
   obtain ⟨_,rfl⟩:=List.getElem?_eq_some_iff.1 hs
   exact List.drop_eq_getElem_cons hkl'
  have htk:ws.take (k + 1)=ws.take k++[s]:=by
   rw [List.take_add_one,hs]; rfl
  have hw:IntKind.i64.wrap ((k:Int) + 1)=((k + 1:Nat):Int):=by rw [wrap64 _ (by omega)]; omega
  have hsn:∀ e,partsV (ws.take (k + 1)) (es++[e])=partsV (ws.take k) es++partV s e:=fun e=>by
   rw [htk,partsV_snoc _ _ _ _ (by rw [List.length_take]; omega)]
  rw [hdr,itsP] at hS
  by_cases hse:s=[]
  ·rw [if_pos hse] at hS
   simp -implicitDefEqProofs [f0,f1,f6,hkl,hkl',hcs,hse,-getElem?_pos,-List.getElem?_map,List.getElem?_cons_zero,List.getElem?_cons_succ]
   refine SC.rd (by simp) [.ptr 0 0] (by simp) (all:=all) (l:=l) (a:=a) (why:=w) (wh:=p) (n:=n') (by simp -implicitDefEqProofs [hH0]) (expr_sq hm hX hn hS) (by simp [toO]) ⟨0,by simp⟩ (by simp [lentO]) ?_ (tg:=.mk)
   rintro x cs - ⟨e,rfl,a2,w2,p2,n2,rfl,hS2⟩
   obtain ⟨o,nm,tl,ty,num,args,pos⟩:=e
   have hS3:Sq l all b n Q (vs++partsV (ws.take (k + 1)) (es++[.mk o nm tl ty num args pos])) (itsP (ws.drop (k + 1))) a2 w2 p2 n2:=by
    rw [hsn]; simpa [partV,hse] using hS2
   rcases hR with ⟨rfl,rfl⟩ | ⟨r,hr3,rfl,hne,hr⟩
   ·simp -implicitDefEqProofs [exA,Ex.cells,wrOb,splice,f0,f1,f5,f6,evP,fillA,hw,-Int.natCast_add]
    refine ⟨g - 1,by omega,k + 1,[.mk o nm tl ty num args pos],a2,w2,p2,n2,.row (H.length + 2),by omega,by simp at hel; simp [← hel],hS3,by simp [f0],by simp [f1],by simp [f5],by simp,?_,.inr ⟨H.length + 2,by omega,rfl,by simp,?_⟩⟩
    ·rw [List.getElem?_append_left (by simpa using hl0),List.getElem?_set_self hl0]
    ·rw [List.getElem?_append_right (by simp)]; simp [exsA,Ex.cells]
   ·have hrl:r < H.length:=(List.getElem?_eq_some_iff.1 hr).1
    have hrX:∀ (o:Ob) (X:List Ob),(H.set 0 o++X)[r]? = some (.own 55 7 es.length (exsA es)):=fun o X=>by
     rw [List.getElem?_append_left (by simpa using hrl),List.getElem?_set_ne (by omega)]; exact hr
    have hb1:(es.length + 1) * 96≤140737488355328:=by omega
    have hb2:es.length + 1≤1073741824:=by omega
    have hb3:es.length≤1073741823:=by omega
    simp -implicitDefEqProofs [exA,Ex.cells,wrOb,splice,f0,f1,f5,f6,hrX,hb1,hb2,hb3,evP,fillA,hw,-Int.natCast_add]
    refine ⟨g - 1,by omega,k + 1,es++[.mk o nm tl ty num args pos],a2,w2,p2,n2,.row (H.length + 2),by omega,by simp [hel],hS3,by simp [f0],by simp [f1],by simp [f5],by simp,?_,.inr ⟨H.length + 2,by omega,rfl,by simp,?_⟩⟩
    ·rw [List.getElem?_append_left (by simp),List.getElem?_set_ne (by omega),List.getElem?_append_left (by simpa using hl0),List.getElem?_set_self hl0]
    ·rw [List.getElem?_append_right (by simp)]; simp [exsA_snoc,Ex.cells]
  ·rw [if_neg hse] at hS
   have hse':(s == [])=false:=beq_eq_false_iff_ne.2 hse
   simp -implicitDefEqProofs [f0,f1,f6,hkl,hkl',hcs,hse,hse',-getElem?_pos,-List.getElem?_map,List.getElem?_cons_zero,List.getElem?_cons_succ]
   refine SC.rd (by simp) [.ptr 0 0,sv s] (by simp) (all:=all) (l:=l) (a:=a) (why:=w) (wh:=p) (n:=n') (by simp -implicitDefEqProofs [hH0]) (want_sq hm hS) (by simp [toO]) ⟨0,by simp⟩ (by simp [lentO]) ?_ (tg:=.mk)
   rintro x cs - ⟨rfl,a1,w1,p1,n1,rfl,hS1⟩
   simp -implicitDefEqProofs [f0]
   refine SC.rd (by simp) [.ptr 0 0] (by simp) (all:=all) (l:=l) (a:=a1) (why:=w1) (wh:=p1) (n:=n1) (by simp -implicitDefEqProofs [hl0]) (expr_sq hm hX hn hS1) (by simp [toO]) ⟨0,by simp⟩ (by simp [lentO]) ?_ (tg:=.mk)
   rintro x cs - ⟨e,rfl,a2,w2,p2,n2,rfl,hS2⟩
   obtain ⟨o,nm,tl,ty,num,args,pos⟩:=e
   have hS3:Sq l all b n Q (vs++partsV (ws.take (k + 1)) (es++[.mk o nm tl ty num args pos])) (itsP (ws.drop (k + 1))) a2 w2 p2 n2:=by
    rw [hsn]; simpa [partV,hse] using hS2
   rcases hR with ⟨rfl,rfl⟩ | ⟨r,hr3,rfl,hne,hr⟩
   ·simp -implicitDefEqProofs [exA,Ex.cells,wrOb,splice,f0,f1,f5,f6,evP,fillA,hw,-Int.natCast_add]
    refine ⟨g - 1,by omega,k + 1,[.mk o nm tl ty num args pos],a2,w2,p2,n2,.row (H.length + 2),by omega,by simp at hel; simp [← hel],hS3,by simp [f0],by simp [f1],by simp [f5],by simp,?_,.inr ⟨H.length + 2,by omega,rfl,by simp,?_⟩⟩
    ·rw [List.getElem?_append_left (by simpa using hl0),List.getElem?_set_self hl0]
    ·rw [List.getElem?_append_right (by simp)]; simp [exsA,Ex.cells]
   ·have hrl:r < H.length:=(List.getElem?_eq_some_iff.1 hr).1
    have hrX:∀ (o:Ob) (X:List Ob),(H.set 0 o++X)[r]? = some (.own 55 7 es.length (exsA es)):=fun o X=>by
     rw [List.getElem?_append_left (by simpa using hrl),List.getElem?_set_ne (by omega)]; exact hr
    have hb1:(es.length + 1) * 96≤140737488355328:=by omega
    have hb2:es.length + 1≤1073741824:=by omega
    have hb3:es.length≤1073741823:=by omega
    simp -implicitDefEqProofs [exA,Ex.cells,wrOb,splice,f0,f1,f5,f6,hrX,hb1,hb2,hb3,evP,fillA,hw,-Int.natCast_add]
    refine ⟨g - 1,by omega,k + 1,es++[.mk o nm tl ty num args pos],a2,w2,p2,n2,.row (H.length + 2),by omega,by simp [hel],hS3,by simp [f0],by simp [f1],by simp [f5],by simp,?_,.inr ⟨H.length + 2,by omega,rfl,by simp,?_⟩⟩
    ·rw [List.getElem?_append_left (by simp),List.getElem?_set_ne (by omega),List.getElem?_append_left (by simpa using hl0),List.getElem?_set_self hl0]
    ·rw [List.getElem?_append_right (by simp)]; simp [exsA_snoc,Ex.cells]
 ·obtain rfl:k=ws.length:=by omega
  have hS':=hS
  rw [List.drop_length,List.take_length,itsP] at hS'
  rcases hR with ⟨rfl,rfl⟩ | ⟨r,hr3,rfl,hne,hr⟩
  ·simp -implicitDefEqProofs [f0,f1,f5,f6,finM,hH0,rdr_deep]
   exact ⟨by simp [rdr],[],by simp [exsA],by simpa using hel,a,w,p,n',rfl,hS'⟩
  ·have h0r:∀ o:Ob,(H.set r o)[0]? = some (.var (rdr all l a w p n')):=fun o=>by rw [List.getElem?_set_ne (by omega)]; exact hH0
   simp -implicitDefEqProofs [f0,f1,f5,f6,finM,hr,h0r,hH0,rdr_deep]
   exact ⟨by simp [rdr],es,⟨rfl,rfl⟩,hel,a,w,p,n',rfl,hS'⟩
def caseIts:List It:=[.e,.w tOf,.w tNil,.w sArrow,.e,.w sBar,.nm,.w sColon,.nm,.w sArrow,.e]
theorem branches_ok (hm:Mks all) (hX:HX G all l b) (hn:0≤n∧n≤b + 1) {a0:Nat} {w0 p0 n0:Int} (hS0:Sq l all b n Q [] caseIts a0 w0 p0 n0) (pos:Int) :
  AM2 Tryz.prog G 113 [.ptr 0 0,.ptr 1 0] (rdr all l a0 w0 p0 n0) [iv 0,sv [],sv [],iv 0,cv 0 0,.v (.slice none 0 0),iv pos] (fun x cs ds=>x=.tup []∧∃ (x y z:Ex) (h t:M),ds=(Ex.mk 20 h.text t.text 0 (0,0) [x,y,z] pos).cells∧∃ (a:Nat) (w p n':Int),cs=rdr all l a w p n'∧Sq l all b n Q [.e x,.u,.u,.u,.e y,.u,.nm h,.u,.nm t,.u,.e z] [] a w p n'):=by
 refine AM2.go hmix F_pbranches (by simp) ⟨0,by simp⟩ ?_
 unfold caseIts at hS0
 simp -implicitDefEqProofs [c_pbranches,wrOb,splice]
 refine SC.rd (by simp) [.ptr 0 0] (by simp) (all:=all) (l:=l) (a:=a0) (why:=w0) (wh:=p0) (n:=n0) (by simp) (expr_sq hm hX hn hS0) (by simp [toO]) ⟨0,by simp⟩ (by simp [lentO]) ?_ (tg:=.mk)
 rintro x cs - ⟨x,rfl,a1,w1,p1,n1,rfl,hS1⟩
 obtain ⟨ox,nmx,tlx,tyx,numx,argsx,posx⟩:=x
 simp -implicitDefEqProofs [exA,Ex.cells,mcells,wrOb,splice]
 refine SC.rd (by simp) [.ptr 0 0,sv tOf] (by simp) (all:=all) (l:=l) (a:=a1) (why:=w1) (wh:=p1) (n:=n1) (by simp) (want_sq hm hS1) (by simp [toO]) ⟨0,by simp⟩ (by simp [lentO]) ?_ (tg:=.mk)
 rintro x cs - ⟨rfl,a2,w2,p2,n2,rfl,hS2⟩
 simp -implicitDefEqProofs [exA,Ex.cells,mcells,wrOb,splice]
 refine SC.rd (by simp) [.ptr 0 0,sv tNil] (by simp) (all:=all) (l:=l) (a:=a2) (why:=w2) (wh:=p2) (n:=n2) (by simp) (want_sq hm hS2) (by simp [toO]) ⟨0,by simp⟩ (by simp [lentO]) ?_ (tg:=.mk)
 rintro x cs - ⟨rfl,a3,w3,p3,n3,rfl,hS3⟩
 simp -implicitDefEqProofs [exA,Ex.cells,mcells,wrOb,splice]
 refine SC.rd (by simp) [.ptr 0 0,sv sArrow] (by simp) (all:=all) (l:=l) (a:=a3) (why:=w3) (wh:=p3) (n:=n3) (by simp) (want_sq hm hS3) (by simp [toO]) ⟨0,by simp⟩ (by simp [lentO]) ?_ (tg:=.mk)
 rintro x cs - ⟨rfl,a4,w4,p4,n4,rfl,hS4⟩
 simp -implicitDefEqProofs [exA,Ex.cells,mcells,wrOb,splice]
 refine SC.rd (by simp) [.ptr 0 0] (by simp) (all:=all) (l:=l) (a:=a4) (why:=w4) (wh:=p4) (n:=n4) (by simp) (expr_sq hm hX hn hS4) (by simp [toO]) ⟨0,by simp⟩ (by simp [lentO]) ?_ (tg:=.mk)
 rintro x cs - ⟨y,rfl,a5,w5,p5,n5,rfl,hS5⟩
 obtain ⟨oy,nmy,tly,tyy,numy,argsy,posy⟩:=y
 simp -implicitDefEqProofs [exA,Ex.cells,mcells,wrOb,splice]
 refine SC.rd (by simp) [.ptr 0 0,sv sBar] (by simp) (all:=all) (l:=l) (a:=a5) (why:=w5) (wh:=p5) (n:=n5) (by simp) (want_sq hm hS5) (by simp [toO]) ⟨0,by simp⟩ (by simp [lentO]) ?_ (tg:=.mk)
 rintro x cs - ⟨rfl,a6,w6,p6,n6,rfl,hS6⟩
 simp -implicitDefEqProofs [exA,Ex.cells,mcells,wrOb,splice]
 refine SC.rd (by simp) [.ptr 0 0] (by simp) (all:=all) (l:=l) (a:=a6) (why:=w6) (wh:=p6) (n:=n6) (by simp) (name_sq hm hS6) (by simp [toO]) ⟨0,by simp⟩ (by simp [lentO]) ?_ (tg:=.mk)
 rintro x cs - ⟨h,rfl,a7,w7,p7,n7,rfl,hS7⟩
 simp -implicitDefEqProofs [exA,Ex.cells,mcells,wrOb,splice]
 refine SC.rd (by simp) [.ptr 0 0,sv sColon] (by simp) (all:=all) (l:=l) (a:=a7) (why:=w7) (wh:=p7) (n:=n7) (by simp) (want_sq hm hS7) (by simp [toO]) ⟨0,by simp⟩ (by simp [lentO]) ?_ (tg:=.mk)
 rintro x cs - ⟨rfl,a8,w8,p8,n8,rfl,hS8⟩
 simp -implicitDefEqProofs [exA,Ex.cells,mcells,wrOb,splice]
 refine SC.rd (by simp) [.ptr 0 0] (by simp) (all:=all) (l:=l) (a:=a8) (why:=w8) (wh:=p8) (n:=n8) (by simp) (name_sq hm hS8) (by simp [toO]) ⟨0,by simp⟩ (by simp [lentO]) ?_ (tg:=.mk)
 rintro x cs - ⟨t,rfl,a9,w9,p9,n9,rfl,hS9⟩
 simp -implicitDefEqProofs [exA,Ex.cells,mcells,wrOb,splice]
 refine SC.rd (by simp) [.ptr 0 0,sv sArrow] (by simp) (all:=all) (l:=l) (a:=a9) (why:=w9) (wh:=p9) (n:=n9) (by simp) (want_sq hm hS9) (by simp [toO]) ⟨0,by simp⟩ (by simp [lentO]) ?_ (tg:=.mk)
 rintro x cs - ⟨rfl,a10,w10,p10,n10,rfl,hS10⟩
 simp -implicitDefEqProofs [exA,Ex.cells,mcells,wrOb,splice]
 refine SC.rd (by simp) [.ptr 0 0] (by simp) (all:=all) (l:=l) (a:=a10) (why:=w10) (wh:=p10) (n:=n10) (by simp) (expr_sq hm hX hn hS10) (by simp [toO]) ⟨0,by simp⟩ (by simp [lentO]) ?_ (tg:=.mk)
 rintro x cs - ⟨z,rfl,a11,w11,p11,n11,rfl,hS11⟩
 obtain ⟨oz,nmz,tlz,tyz,numz,argsz,posz⟩:=z
 simp -implicitDefEqProofs [exA,Ex.cells,mcells,wrOb,splice,evP,fillA,finM2,finN,rdr_deep]
 refine ⟨by simp [rdr],.mk ox nmx tlx tyx numx argsx posx,.mk oy nmy tly tyy numy argsy posy,.mk oz nmz tlz tyz numz argsz posz,h,t,?_,a11,w11,p11,n11,rfl,by simpa using hS11⟩
 simp [exsA,Ex.cells,W0]
end
end Go.Proofs.YtgddkgbidhhheaaGreatDoor
set_option linter.unusedVariables false
set_option linter.unusedSimpArgs false
set_option maxRecDepth 100000
namespace Go.Proofs.YtgddkgbidhhheaaGreatDoor
open Go.RowKit Flo Ab Mk Pg
section
variable {G:World→Prop} {all:List M} {l:Lim} {b:Nat} {n:Int}
theorem isB_cases {m:M} (h:isB m=true):isW m tLet=true∨isW m tStrict=true∨isW m tCase=true:=by
 unfold isB at h
 simp only [Bool.or_eq_true] at h
 rcases h with (h | h) | h
 ·exact .inl h
 ·exact .inr (.inl h)
 ·exact .inr (.inr h)
theorem isB_not {m:M} (h:isB m=false):isW m tLet=false∧isW m tStrict=false∧isW m tCase=false:=by
 unfold isB at h
 simp only [Bool.or_eq_false_iff] at h
 exact ⟨h.1.1,h.1.2,h.2⟩
theorem isB_let {m:M} (h:isW m tLet=true):isB m=true:=by unfold isB; rw [h]; rfl
theorem isB_strict {m:M} (h:isW m tStrict=true):isB m=true:=by unfold isB; rw [h]; simp
theorem isB_case {m:M} (h:isW m tCase=true):isB m=true:=by unfold isB; rw [h]; simp
theorem two_of {es:List Ex} (h:es.length=2):∃ x y,es=[x,y]:=by
 match es,h with
 | [x,y],_=>exact ⟨x,y,rfl⟩
theorem three_of {es:List Ex} (h:es.length=3):∃ x y z,es=[x,y,z]:=by
 match es,h with
 | [x,y,z],_=>exact ⟨x,y,z,rfl⟩
theorem expr_ok (hm:Mks all) (hX:HX G all l b) (hC:GC G 111 all l (Lv 0) b) (hb:b < all.length):GC G 81 all l .expr b:=by
 intro n hn0 hn1
 have hlen:=hm.len
 obtain ⟨m,h0⟩:∃ m,all[b]? = some m:=⟨_,List.getElem?_eq_getElem hb⟩
 have hdr:=drop_at h0
 have hw:IntKind.i64.wrap ((b:Int) + 1)=((b + 1:Nat):Int):=by rw [wrap64 _ (by omega)]; omega
 have hwn:IntKind.i64.wrap (n + 1)=n + 1:=by rw [wrap64 _ (by omega)]
 have hwn':IntKind.i64.wrap n=n:=by rw [wrap64 _ (by omega)]
 refine AM.go hmix F_pexpr (by simp) ?_
 simp -implicitDefEqProofs [c_pexpr]
 refine SC.rd (by simp) [.ptr 0 0] (by simp) (all:=all) (l:=l) (a:=b) (why:=0) (wh:=0) (n:=n) (by simp) (rnext_ap all l b 0 0 n h0) (by simp [toO]) ⟨0,by simp⟩ (by simp [lentO]) ?_ (tg:=.mk)
 rintro x cs - ⟨rfl,rfl⟩
 have s1:=ris_ap (G:=G) all l b 0 0 n tLet h0
 have s2:=ris_ap (G:=G) all l b 0 0 n tStrict h0
 have s3:=ris_ap (G:=G) all l b 0 0 n tCase h0
 have s4:=ris_ap (G:=G) all l b 0 0 n tIf h0
 have hfail:=rfail_ap (G:=G) all l b 0 0 n 23 h0
 simp -implicitDefEqProofs [mcells,wrOb,splice]
 by_cases hB:isB m=true
 ·rcases isB_cases hB with hs | hs | hs
  ·have hB:=isB_let hs
   have hlt:=hm.fin b m h0 (isW_kind hs).2.2
   have htx:=isW_text hs
   rw [hs] at s1
   refine SC.rd (by simp) [.ptr 0 0,sv tLet] (by simp) (all:=all) (l:=l) (a:=b) (why:=0) (wh:=0) (n:=n) (by simp) (s1) (by simp [toO]) ⟨0,by simp⟩ (by simp [lentO]) ?_ (tg:=.mk)
   rintro x cs - ⟨rfl,rfl⟩
   by_cases hnest:l.nest≤n
   ·simp -implicitDefEqProofs [hnest,rdr]
    refine SC.rd (by simp) [.ptr 0 0,iv 23] (by simp) (all:=all) (l:=l) (a:=b) (why:=0) (wh:=0) (n:=n) (by simp -implicitDefEqProofs [rdr]) (hfail) (by simp [toO]) ⟨0,by simp⟩ (by simp [lentO]) ?_ (tg:=.mk)
    rintro x cs - ⟨rfl,rfl⟩
    simp -implicitDefEqProofs [rdr,wrOb,splice,evP,fillA,finM]
    refine .inr ⟨23,m.pos,Ex.zero,b,n,?_,by omega,by rw [exA,zeroE_cells],hb,by simp [rdr]⟩
    rw [hdr]; exact .deep _ hB hnest
   ·have hnl:n < l.nest:=by omega
    simp -implicitDefEqProofs [hnest,hnl,rdr,hw,hwn,htx,wrOb,splice,evP,fillA,-Int.natCast_add]
    have hbi:bindIts m=[.nm,.ty,.w sEq,.e,.w tIn,.e]:=by unfold bindIts; rw [isW_other hs (by decide)]; rfl
    have hS:=Sq.new (l:=l) (n:=n + 1) hlt (show b < b + 1 by omega) (bindIts m)
    have hPb:∀ r,P l (.seq (n + 1) (bindIts m) (all.drop (b + 1))) r→P l (.expr n (all.drop b)) (r.map (bindEx m)):=fun r hr=>by rw [hdr]; exact .bind hB hnl hr
    have hop:(if isW m tStrict=true then (22:Int) else 21)=21:=by rw [isW_other hs (show tLet≠tStrict by decide)]; rfl
    obtain ⟨its0,hi0⟩:∃ its0,bindIts m=its0:=⟨_,rfl⟩
    rw [hi0] at hS hPb hbi
    have hS0:=hS
    rw [hbi] at hS0
    rw [← hbi] at hS0
    rw [show its0=[.nm,.ty,.w sEq,.e,.w tIn,.e] from hbi] at hS
    refine SC.rd (by simp) [.ptr 0 0] (by simp) (all:=all) (l:=l) (a:=b + 1) (why:=0) (wh:=0) (n:=n + 1) (by simp -implicitDefEqProofs [rdr]) (name_sq hm hS) (by simp [toO]) ⟨0,by simp⟩ (by simp [lentO]) ?_ (tg:=.mk)
    rintro x cs - ⟨mx,rfl,a1,w1,p1,n1,rfl,hS1⟩
    simp -implicitDefEqProofs [mcells,wrOb,splice]
    refine SC.rd (by simp) [.ptr 0 0] (by simp) (all:=all) (l:=l) (a:=a1) (why:=w1) (wh:=p1) (n:=n1) (by simp) (typ_sq hm hS1) (by simp [toO]) ⟨0,by simp⟩ (by simp [lentO]) ?_ (tg:=.mk)
    rintro x cs - ⟨ty,rfl,a2,w2,p2,n2,rfl,hS2⟩
    have hS2':Sq l all b (n + 1) (P l (.seq (n + 1) [.nm,.ty,.w sEq,.e,.w tIn,.e] (all.drop (b + 1)))) [.nm mx,.ty ty] (itsP [sEq,tIn]) a2 w2 p2 n2:=by simpa [itsP] using hS2
    simp -implicitDefEqProofs [wrOb,splice,evP,fillA]
    refine SC.rd (by simp) [.ptr 0 0,.row 5] (by simp) (all:=all) (l:=l) (a:=a2) (why:=w2) (wh:=p2) (n:=n2) (by simp) (parts_ok hm hX (by omega) (by simp) hS2') (by simp [toO]) ⟨0,by simp⟩ (by simp [lentO]) ?_ (tg:=.mk)
    rintro x cs - ⟨es,rfl,hel,a3,w3,p3,n3,rfl,hS3⟩
    obtain ⟨y,z,rfl⟩:=two_of hel
    simp -implicitDefEqProofs [rdr,wrOb,splice,evP,fillA,finM,-Int.natCast_add]
    have hS4:Sq l all b (n + 1) (P l (.seq (n + 1) its0 (all.drop (b + 1)))) [.nm mx,.ty ty,.u,.e y,.u,.e z] [] a3 w3 p3 n3:=by rw [hbi]; simpa [partsV,partV] using hS3
    rcases hS4.end with ⟨rfl,rfl,rfl,hb2,hl2,hP⟩ | ⟨hw2,hl2,hP⟩
    ·refine .inl ⟨.mk 21 mx.text [] ty (0,0) [y,z] m.pos,a3,?_,by simp [exA,Ex.cells,W0],hb2,hl2,by simp [rdr,hwn']⟩
     have:=hPb _ hP
     simpa [Res.map,bindEx,hop] using this
    ·exact .inr ⟨w3,p3,.mk 21 mx.text [] ty (0,0) [y,z] m.pos,a3,_,hPb _ hP,hw2,by simp [exA,Ex.cells,W0],hl2,rfl⟩
  ·have hB:=isB_strict hs
   have hlt:=hm.fin b m h0 (isW_kind hs).2.2
   have htx:=isW_text hs
   rw [isW_other hs (show tStrict≠tLet by decide)] at s1
   rw [hs] at s2
   refine SC.rd (by simp) [.ptr 0 0,sv tLet] (by simp) (all:=all) (l:=l) (a:=b) (why:=0) (wh:=0) (n:=n) (by simp) (s1) (by simp [toO]) ⟨0,by simp⟩ (by simp [lentO]) ?_ (tg:=.mk)
   rintro x cs - ⟨rfl,rfl⟩
   simp -implicitDefEqProofs
   refine SC.rd (by simp) [.ptr 0 0,sv tStrict] (by simp) (all:=all) (l:=l) (a:=b) (why:=0) (wh:=0) (n:=n) (by simp) (s2) (by simp [toO]) ⟨0,by simp⟩ (by simp [lentO]) ?_ (tg:=.mk)
   rintro x cs - ⟨rfl,rfl⟩
   by_cases hnest:l.nest≤n
   ·simp -implicitDefEqProofs [hnest,rdr]
    refine SC.rd (by simp) [.ptr 0 0,iv 23] (by simp) (all:=all) (l:=l) (a:=b) (why:=0) (wh:=0) (n:=n) (by simp -implicitDefEqProofs [rdr]) (hfail) (by simp [toO]) ⟨0,by simp⟩ (by simp [lentO]) ?_ (tg:=.mk)
    rintro x cs - ⟨rfl,rfl⟩
    simp -implicitDefEqProofs [rdr,wrOb,splice,evP,fillA,finM]
    refine .inr ⟨23,m.pos,Ex.zero,b,n,?_,by omega,by rw [exA,zeroE_cells],hb,by simp [rdr]⟩
    rw [hdr]; exact .deep _ hB hnest
   ·have hnl:n < l.nest:=by omega
    simp -implicitDefEqProofs [hnest,hnl,rdr,hw,hwn,htx,wrOb,splice,evP,fillA,-Int.natCast_add]
    have hbi:bindIts m=[.nm,.ty,.w sEq,.e,.w tIn,.e]:=by unfold bindIts; rw [isW_other hs (by decide)]; rfl
    have hS:=Sq.new (l:=l) (n:=n + 1) hlt (show b < b + 1 by omega) (bindIts m)
    have hPb:∀ r,P l (.seq (n + 1) (bindIts m) (all.drop (b + 1))) r→P l (.expr n (all.drop b)) (r.map (bindEx m)):=fun r hr=>by rw [hdr]; exact .bind hB hnl hr
    have hop:(if isW m tStrict=true then (22:Int) else 21)=22:=by rw [hs]; rfl
    obtain ⟨its0,hi0⟩:∃ its0,bindIts m=its0:=⟨_,rfl⟩
    rw [hi0] at hS hPb hbi
    have hS0:=hS
    rw [hbi] at hS0
    rw [← hbi] at hS0
    rw [show its0=[.nm,.ty,.w sEq,.e,.w tIn,.e] from hbi] at hS
    refine SC.rd (by simp) [.ptr 0 0] (by simp) (all:=all) (l:=l) (a:=b + 1) (why:=0) (wh:=0) (n:=n + 1) (by simp -implicitDefEqProofs [rdr]) (name_sq hm hS) (by simp [toO]) ⟨0,by simp⟩ (by simp [lentO]) ?_ (tg:=.mk)
    rintro x cs - ⟨mx,rfl,a1,w1,p1,n1,rfl,hS1⟩
    simp -implicitDefEqProofs [mcells,wrOb,splice]
    refine SC.rd (by simp) [.ptr 0 0] (by simp) (all:=all) (l:=l) (a:=a1) (why:=w1) (wh:=p1) (n:=n1) (by simp) (typ_sq hm hS1) (by simp [toO]) ⟨0,by simp⟩ (by simp [lentO]) ?_ (tg:=.mk)
    rintro x cs - ⟨ty,rfl,a2,w2,p2,n2,rfl,hS2⟩
    have hS2':Sq l all b (n + 1) (P l (.seq (n + 1) [.nm,.ty,.w sEq,.e,.w tIn,.e] (all.drop (b + 1)))) [.nm mx,.ty ty] (itsP [sEq,tIn]) a2 w2 p2 n2:=by simpa [itsP] using hS2
    simp -implicitDefEqProofs [wrOb,splice,evP,fillA]
    refine SC.rd (by simp) [.ptr 0 0,.row 5] (by simp) (all:=all) (l:=l) (a:=a2) (why:=w2) (wh:=p2) (n:=n2) (by simp) (parts_ok hm hX (by omega) (by simp) hS2') (by simp [toO]) ⟨0,by simp⟩ (by simp [lentO]) ?_ (tg:=.mk)
    rintro x cs - ⟨es,rfl,hel,a3,w3,p3,n3,rfl,hS3⟩
    obtain ⟨y,z,rfl⟩:=two_of hel
    simp -implicitDefEqProofs [rdr,wrOb,splice,evP,fillA,finM,-Int.natCast_add]
    have hS4:Sq l all b (n + 1) (P l (.seq (n + 1) its0 (all.drop (b + 1)))) [.nm mx,.ty ty,.u,.e y,.u,.e z] [] a3 w3 p3 n3:=by rw [hbi]; simpa [partsV,partV] using hS3
    rcases hS4.end with ⟨rfl,rfl,rfl,hb2,hl2,hP⟩ | ⟨hw2,hl2,hP⟩
    ·refine .inl ⟨.mk 22 mx.text [] ty (0,0) [y,z] m.pos,a3,?_,by simp [exA,Ex.cells,W0],hb2,hl2,by simp [rdr,hwn']⟩
     have:=hPb _ hP
     simpa [Res.map,bindEx,hop] using this
    ·exact .inr ⟨w3,p3,.mk 22 mx.text [] ty (0,0) [y,z] m.pos,a3,_,hPb _ hP,hw2,by simp [exA,Ex.cells,W0],hl2,rfl⟩
  ·have hB:=isB_case hs
   have hlt:=hm.fin b m h0 (isW_kind hs).2.2
   have htx:=isW_text hs
   rw [isW_other hs (show tCase≠tLet by decide)] at s1
   rw [isW_other hs (show tCase≠tStrict by decide)] at s2
   rw [hs] at s3
   refine SC.rd (by simp) [.ptr 0 0,sv tLet] (by simp) (all:=all) (l:=l) (a:=b) (why:=0) (wh:=0) (n:=n) (by simp) (s1) (by simp [toO]) ⟨0,by simp⟩ (by simp [lentO]) ?_ (tg:=.mk)
   rintro x cs - ⟨rfl,rfl⟩
   simp -implicitDefEqProofs
   refine SC.rd (by simp) [.ptr 0 0,sv tStrict] (by simp) (all:=all) (l:=l) (a:=b) (why:=0) (wh:=0) (n:=n) (by simp) (s2) (by simp [toO]) ⟨0,by simp⟩ (by simp [lentO]) ?_ (tg:=.mk)
   rintro x cs - ⟨rfl,rfl⟩
   simp -implicitDefEqProofs
   refine SC.rd (by simp) [.ptr 0 0,sv tCase] (by simp) (all:=all) (l:=l) (a:=b) (why:=0) (wh:=0) (n:=n) (by simp) (s3) (by simp [toO]) ⟨0,by simp⟩ (by simp [lentO]) ?_ (tg:=.mk)
   rintro x cs - ⟨rfl,rfl⟩
   by_cases hnest:l.nest≤n
   ·simp -implicitDefEqProofs [hnest,rdr]
    refine SC.rd (by simp) [.ptr 0 0,iv 23] (by simp) (all:=all) (l:=l) (a:=b) (why:=0) (wh:=0) (n:=n) (by simp -implicitDefEqProofs [rdr]) (hfail) (by simp [toO]) ⟨0,by simp⟩ (by simp [lentO]) ?_ (tg:=.mk)
    rintro x cs - ⟨rfl,rfl⟩
    simp -implicitDefEqProofs [rdr,wrOb,splice,evP,fillA,finM]
    refine .inr ⟨23,m.pos,Ex.zero,b,n,?_,by omega,by rw [exA,zeroE_cells],hb,by simp [rdr]⟩
    rw [hdr]; exact .deep _ hB hnest
   ·have hnl:n < l.nest:=by omega
    simp -implicitDefEqProofs [hnest,hnl,rdr,hw,hwn,htx,wrOb,splice,evP,fillA,-Int.natCast_add]
    have hbi:bindIts m=caseIts:=by unfold bindIts; rw [if_pos hs]; rfl
    have hS:=Sq.new (l:=l) (n:=n + 1) hlt (show b < b + 1 by omega) caseIts
    have hPb:∀ r,P l (.seq (n + 1) caseIts (all.drop (b + 1))) r→P l (.expr n (all.drop b)) (r.map (bindEx m)):=fun r hr=>by rw [hdr]; rw [← hbi] at hr; exact .bind hB hnl hr
    have hbr:=branches_ok (G:=G) hm hX (by omega) hS m.pos
    refine SC.lent2 (by simp) [.ptr 0 0,.ptr 3 0] (by simp) 0 3 (by omega) (rdr all l (b + 1) 0 0 (n + 1)) [iv 0,sv [],sv [],iv 0,cv 0 0,.v (.slice none 0 0),iv m.pos] (by simp [rdr]) (by simp) (by simp [rdr]) (by simp) (by simpa [toO,show List.idxOf 3 [0,3]=1 by decide] using hbr) ⟨0,by simp⟩ ⟨0,by simp⟩ (by simp [lentO]) ?_ (a:=.mk)
    rintro x cs ds - - ⟨rfl,ex,ey,ez,mh,mt,rfl,a3,w3,p3,n3,rfl,hS4⟩
    simp -implicitDefEqProofs [rdr,Ex.cells,wrOb,splice,evP,fillA,finM,-Int.natCast_add]
    rcases hS4.end with ⟨rfl,rfl,rfl,hb2,hl2,hP⟩ | ⟨hw2,hl2,hP⟩
    ·refine .inl ⟨.mk 20 mh.text mt.text 0 (0,0) [ex,ey,ez] m.pos,a3,?_,by simp [exA,Ex.cells,W0],hb2,hl2,by simp [rdr,hwn']⟩
     have:=hPb _ hP
     simpa [Res.map,bindEx] using this
    ·exact .inr ⟨w3,p3,.mk 20 mh.text mt.text 0 (0,0) [ex,ey,ez] m.pos,a3,_,hPb _ hP,hw2,by simp [exA,Ex.cells,W0],hl2,rfl⟩
 ·have hB':isB m=false:=by simpa using hB
  obtain ⟨e1,e2,e3⟩:=isB_not hB'
  rw [e1] at s1
  rw [e2] at s2
  rw [e3] at s3
  refine SC.rd (by simp) [.ptr 0 0,sv tLet] (by simp) (all:=all) (l:=l) (a:=b) (why:=0) (wh:=0) (n:=n) (by simp) (s1) (by simp [toO]) ⟨0,by simp⟩ (by simp [lentO]) ?_ (tg:=.mk)
  rintro x cs - ⟨rfl,rfl⟩
  simp -implicitDefEqProofs
  refine SC.rd (by simp) [.ptr 0 0,sv tStrict] (by simp) (all:=all) (l:=l) (a:=b) (why:=0) (wh:=0) (n:=n) (by simp) (s2) (by simp [toO]) ⟨0,by simp⟩ (by simp [lentO]) ?_ (tg:=.mk)
  rintro x cs - ⟨rfl,rfl⟩
  simp -implicitDefEqProofs
  refine SC.rd (by simp) [.ptr 0 0,sv tCase] (by simp) (all:=all) (l:=l) (a:=b) (why:=0) (wh:=0) (n:=n) (by simp) (s3) (by simp [toO]) ⟨0,by simp⟩ (by simp [lentO]) ?_ (tg:=.mk)
  rintro x cs - ⟨rfl,rfl⟩
  simp -implicitDefEqProofs [rdr]
  cases hif:isW m tIf
  ·rw [hif] at s4
   refine SC.rd (by simp) [.ptr 0 0,sv tIf] (by simp) (all:=all) (l:=l) (a:=b) (why:=0) (wh:=0) (n:=n) (by simp -implicitDefEqProofs [rdr]) (s4) (by simp [toO]) ⟨0,by simp⟩ (by simp [lentO]) ?_ (tg:=.mk)
   rintro x cs - ⟨rfl,rfl⟩
   simp -implicitDefEqProofs
   refine SC.rd (by simp) [.ptr 0 0] (by simp) (all:=all) (l:=l) (a:=b) (why:=0) (wh:=0) (n:=n) (by simp) (hC n hn0 hn1) (by simp [toO]) ⟨0,by simp⟩ (by simp [lentO]) ?_ (tg:=.mk)
   rintro x cs hcs hO
   have hO':Out (P l (.expr n (all.drop b))) all l b n x cs:=hO.mono fun r hr=>by
    rw [hdr]
    unfold Lv at hr
    rw [hdr] at hr
    exact .expr hB' hif hr
   rcases hO with ⟨e,a',hP,rfl,ha1,ha2,rfl⟩ | ⟨w,p,e,a',n1,hP,hw,rfl,ha2,rfl⟩
   ·obtain ⟨o,nm,tl,ty,num,args,pos⟩:=e
    simp -implicitDefEqProofs [exA,Ex.cells,wrOb,splice,finM]
    exact ⟨by simp [rdr],hO'⟩
   ·obtain ⟨o,nm,tl,ty,num,args,pos⟩:=e
    simp -implicitDefEqProofs [exA,Ex.cells,wrOb,splice,finM]
    exact ⟨by simp [rdr],hO'⟩
  ·rw [hif] at s4
   have hlt:=hm.fin b m h0 (isW_kind hif).2.2
   have htx:=isW_text hif
   refine SC.rd (by simp) [.ptr 0 0,sv tIf] (by simp) (all:=all) (l:=l) (a:=b) (why:=0) (wh:=0) (n:=n) (by simp -implicitDefEqProofs [rdr]) (s4) (by simp [toO]) ⟨0,by simp⟩ (by simp [lentO]) ?_ (tg:=.mk)
   rintro x cs - ⟨rfl,rfl⟩
   have hS:=Sq.new (l:=l) (n:=n) hlt (show b < b + 1 by omega) ifIts
   have hS':Sq l all b n (P l (.seq n ifIts (all.drop (b + 1)))) [] (itsP [[],tThen,tElse]) (b + 1) 0 0 n:=by simpa [itsP,ifIts] using hS
   simp -implicitDefEqProofs [rdr,hw,htx,wrOb,splice,evP,fillA,-Int.natCast_add]
   refine SC.rd (by simp) [.ptr 0 0,.row 4] (by simp) (all:=all) (l:=l) (a:=b + 1) (why:=0) (wh:=0) (n:=n) (by simp -implicitDefEqProofs [rdr]) (parts_ok hm hX (by omega) (by simp) hS') (by simp [toO]) ⟨0,by simp⟩ (by simp [lentO]) ?_ (tg:=.mk)
   rintro x cs - ⟨es,rfl,hel,a3,w3,p3,n3,rfl,hS3⟩
   obtain ⟨y,z,u,rfl⟩:=three_of hel
   simp -implicitDefEqProofs [wrOb,splice,evP,fillA,finM]
   refine ⟨by simp [rdr],?_⟩
   rcases hS3.end with ⟨rfl,rfl,rfl,hb2,hl2,hP⟩ | ⟨hw2,hl2,hP⟩
   ·refine .inl ⟨.mk 19 [] [] 0 (0,0) [y,z,u] m.pos,a3,?_,by simp [exA,Ex.cells,W0],hb2,hl2,rfl⟩
    have:=P.cond hif hP
    rw [hdr]
    simpa [Res.map,ifEx,partsV,partV] using this
   ·refine .inr ⟨w3,p3,.mk 19 [] [] 0 (0,0) [y,z,u] m.pos,a3,n3,?_,hw2,by simp [exA,Ex.cells,W0],hl2,rfl⟩
    rw [hdr]
    exact P.cond hif hP
end
end Go.Proofs.YtgddkgbidhhheaaGreatDoor
