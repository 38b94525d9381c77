/- Texts joined: Prf Prg. -/
import Derived.Test.YtgddkgbidhhheaaGreatDoorKtav
set_option linter.unusedVariables false
set_option linter.unusedSimpArgs false
set_option maxRecDepth 100000
namespace Go.Proofs.YtgddkgbidhhheaaGreatDoor
open Go.RowKit Flo Ab Mk Pg
section
variable {G:World→Prop} {all:List M} {l:Lim} {b:Nat} {n:Int}
theorem strOf_at {m:M} {s:List UInt8} (h:isW m s=true):strOf m=(if s=sColon then some (0,18) else if s=sEqEq then some (1,12) else if s=sLess then some (1,13) else if s=sPlus then some (2,8) else if s=sMinus then some (2,9) else if s=sStar then some (3,10) else if s=sSlash then some (3,11) else none):=by
 have e:∀ t,isW m t=decide (s=t):=fun t=>by
  by_cases ht:s=t
  ·subst ht; simpa using h
  ·rw [isW_other h ht]; simp [ht]
 unfold strOf
 simp only [e,decide_eq_true_eq]
theorem strOf_lv {m:M} {lv:Nat} {op:Int} (h:strOf m=some (lv,op)):(lv=0→isW m sColon=true)∧(lv=1→isW m sEqEq=true∨isW m sLess=true)∧(lv=2→isW m sPlus=true∨isW m sMinus=true)∧(lv=3→isW m sStar=true∨isW m sSlash=true):=by
 unfold strOf at h
 repeat' split at h
 all_goals (cases h<;>simp_all)
theorem str_not {m:M} {lv:Nat} (h:∀ op,strOf m≠some (lv,op)):(strOf m).map (·.1)≠some lv:=by
 cases hs:strOf m with
 | none=>simp
 | some q=>obtain ⟨a,op⟩:=q; simp only [Option.map_some,ne_eq,Option.some.injEq]; rintro rfl; exact h op hs
def TmI (l:Lim) (all:List M) (b:Nat) (n:Int) (lv:Nat) (e:Ex) (a:Nat) (w p n':Int):Prop:=
 a < all.length∧((w=0∧p=0∧n'=n∧b < a∧∀ r,P l (.tail n lv e (all.drop a)) r→P l (.row n lv (all.drop b)) r)∨(w≠0∧P l (.row n lv (all.drop b)) (.bad w p)))
def TmL (l:Lim) (all:List M) (b:Nat) (n:Int) (lv:Nat) (g:Nat) (F:Fr) (H:List Ob):Prop:=
 ∃ (e:Ex) (a:Nat) (w p n':Int),TmI l all b n lv e a w p n'∧((w=0∧g=all.length - a)∨(w≠0∧g=0))∧F 0=some (.ptr 0 0)∧F 2=some (.ptr 1 0)∧F 3=some (.ptr 2 0)∧H[0]? = some (.var (rdr all l a w p n')) ∧
  H[1]? = some (.var [iv 0,sv [],sv [],iv 0,cv 0 0,.v (.slice none 0 0),iv 0])∧H[2]? = some (.var e.cells)
def Lv (lv:Nat) (n:Int) (ms:List M):Job:=.row n lv ms
theorem Out.mono {Q Q':Res→Prop} {a:Nat} {x:AV} {cs:List AV} (h:Out Q all l a n x cs) (hq:∀ r,Q r→Q' r):Out Q' all l a n x cs:=by
 rcases h with ⟨e,a',hP,h⟩ | ⟨w,p,e,a',n',hP,h⟩
 ·exact .inl ⟨e,a',hq _ hP,h⟩
 ·exact .inr ⟨w,p,e,a',n',hq _ hP,h⟩
theorem TmI.good {lv:Nat} {e:Ex} {a:Nat} {p n':Int} (h:TmI l all b n lv e a 0 p n'):p=0∧n'=n∧b < a∧∀ r,P l (.tail n lv e (all.drop a)) r→P l (.row n lv (all.drop b)) r:=by
 obtain ⟨_,⟨_,h1,h2,h3,h4⟩ | ⟨hw,_⟩⟩:=h
 ·exact ⟨h1,h2,h3,h4⟩
 ·exact absurd rfl hw
theorem tm_step {a lv:Nat} {op:Int} {e:Ex} {m:M} (h1:all[a]? = some m) (hs:strOf m=some (lv,op)) (h2:2≤lv) (hP:∀ r,P l (.tail n lv e (all.drop a)) r→P l (.row n lv (all.drop b)) r) (hb:b < a) {x:AV} {cs:List AV}
  (hO:Out (P l (.row n (right lv) (all.drop (a + 1)))) all l (a + 1) n x cs):∃ (e2:Ex) (a2:Nat) (w2 p2 n2:Int),x=exA e2∧cs=rdr all l a2 w2 p2 n2∧TmI l all b n lv (two op e e2 m.pos) a2 w2 p2 n2∧(w2=0→a < a2):=by
 rcases hO with ⟨e2,a2,hP2,rfl,ha1,ha2,rfl⟩ | ⟨w,p,e2,a2,n2,hP2,hw,rfl,ha2,rfl⟩
 ·refine ⟨e2,a2,0,0,n,rfl,rfl,⟨ha2,.inl ⟨rfl,rfl,rfl,by omega,fun r hr=>hP _ ?_⟩⟩,fun _=>by omega⟩
  rw [drop_at h1]; exact .tail2 hs h2 hP2 hr
 ·refine ⟨e2,a2,w,p,n2,rfl,rfl,⟨ha2,.inr ⟨hw,hP _ ?_⟩⟩,fun h=>absurd h hw⟩
  rw [drop_at h1]; exact .tailBad _ hs hP2
theorem term_ok (hm:Mks all) (hU:∀ a,b≤a→a < all.length→GC G 170 all l .unit a) (hb:b < all.length):GC G 159 all l (Lv 3) b:=by
 intro n hn0 hn1
 have hlen:=hm.len
 refine AM.go hmix F_pterm (by simp) ?_
 simp -implicitDefEqProofs [c_pterm]
 refine SC.rd (by simp) [.ptr 0 0] (by simp) (all:=all) (l:=l) (a:=b) (why:=0) (wh:=0) (n:=n) (by simp) (hU b (by omega) hb n hn0 hn1) (by simp [toO]) ⟨0,by simp⟩ (by simp [lentO]) ?_ (tg:=.mk)
 rintro x cs - hO
 have hst:∃ (e:Ex) (a:Nat) (w p n':Int),x=exA e∧cs=rdr all l a w p n'∧TmI l all b n 3 e a w p n':=by
  rcases hO with ⟨e,a',hP,rfl,ha1,ha2,rfl⟩ | ⟨w,p,e,a',n1,hP,hw,rfl,ha2,rfl⟩
  ·exact ⟨e,a',0,0,n,rfl,rfl,ha2,.inl ⟨rfl,rfl,rfl,ha1,fun r hr=>.row (by decide) (.row4 hP) hr⟩⟩
  ·exact ⟨e,a',w,p,n1,rfl,rfl,ha2,.inr ⟨hw,.rowBad (by decide) (.row4 hP)⟩⟩
 clear hO
 obtain ⟨e,a,w,p,n',rfl,rfl,hT⟩:=hst
 obtain ⟨o,nm,tl,ty,num,args,pos⟩:=e
 simp -implicitDefEqProofs [exA,Ex.cells,wrOb,splice]
 refine LP.go (TmL l all b n 3) (if w=0 then all.length - a else 0) ⟨_,a,w,p,n',hT,?_,by simp,by simp,by simp,by simp,by simp,by simp [Ex.cells]⟩ ?_
 ·by_cases hw1:w=0
  ·exact .inl ⟨hw1,by rw [if_pos hw1]⟩
  ·exact .inr ⟨hw1,by rw [if_neg hw1]⟩
 clear hT
 unfold c_pterm_L0
 rintro g F H ⟨e,a,w,p,n',hT,hg,f0,f2,f3,hH0,hH1,hH2⟩
 obtain ⟨o,nm,tl,ty,num,args,pos⟩:=e
 rw [Ex.cells] at hH2
 have ha:=hT.1
 obtain ⟨m,h1⟩:∃ m,all[a]? = some m:=⟨_,List.getElem?_eq_getElem ha⟩
 have hl0:0 < H.length:=(List.getElem?_eq_some_iff.1 hH0).1
 have hl2:2 < H.length:=(List.getElem?_eq_some_iff.1 hH2).1
 have s1:=ris_ap (G:=G) all l a w p n' sStar h1
 have s2:=ris_ap (G:=G) all l a w p n' sSlash h1
 obtain ⟨q1,hq1⟩:∃ q,(decide (w=0) && isW m sStar)=q:=⟨_,rfl⟩
 obtain ⟨q2,hq2⟩:∃ q,(decide (w=0) && isW m sSlash)=q:=⟨_,rfl⟩
 rw [hq1] at s1
 rw [hq2] at s2
 have hf1:(frzT H [.ptr 0 0,sv sStar]).1=H:=by simp
 have hf2:(frzT H [.ptr 0 0,sv sSlash]).1=H:=by simp
 have hw:IntKind.i64.wrap ((a:Int) + 1)=((a + 1:Nat):Int):=by rw [wrap64 _ (by omega)]; omega
 have gs0:∀ (X:List Ob) (o:Ob),((H++X).set 0 o)[0]? = some o:=fun X o=>by rw [List.getElem?_set_self (by simp; omega)]
 have gs0':∀ (X Y:List Ob) (o:Ob),((H++X).set 0 o++Y)[0]? = some o:=fun X Y o=>by rw [List.getElem?_append_left (by simp; omega)]; exact gs0 X o
 have gs1:∀ (X Y:List Ob) (o':Ob),((H++X).set 0 o'++Y)[1]? = some (.var [iv 0,sv [],sv [],iv 0,cv 0 0,.v (.slice none 0 0),iv 0]):=fun X Y o'=>by
  rw [List.getElem?_append_left (by simp; omega),List.getElem?_set_ne (by omega),List.getElem?_append_left (by omega)]; exact hH1
 have gs2:∀ (X Y:List Ob) (o':Ob),((H++X).set 0 o'++Y)[2]? = some (.var [iv o,sv nm,sv tl,iv ty,cv (W num.1) (W num.2),.sl args.length (exsA args),iv pos]):=fun X Y o'=>by
  rw [List.getElem?_append_left (by simp; omega),List.getElem?_set_ne (by omega),List.getElem?_append_left (by omega)]; exact hH2
 have gsm:∀ (y:Ob) (Y:List Ob) (o':Ob),((H++[y]).set 0 o'++Y)[H.length]? = some y:=fun y Y o'=>by
  rw [List.getElem?_append_left (by simp),List.getElem?_set_ne (by omega),List.getElem?_append_right (by omega)]; simp
 have gse:∀ (y z:Ob) (o':Ob),((H++[y]).set 0 o'++[z])[H.length + 1]? = some z:=fun y z o'=>by
  rw [List.getElem?_append_right (by simp)]; simp
 simp -implicitDefEqProofs [f0]
 refine SC.rd (by simp) [.ptr 0 0,sv sStar] (by simp) (all:=all) (l:=l) (a:=a) (why:=w) (wh:=p) (n:=n') (by simp -implicitDefEqProofs [hH0]) (s1) (by simp [toO]) ⟨0,by simp⟩ (by simp [lentO]) ?_ (tg:=.mk)
 rintro x cs - ⟨rfl,rfl⟩
 rw [hf1,set_same hH0]
 cases q1
 ·simp -implicitDefEqProofs [f0]
  refine SC.rd (by simp) [.ptr 0 0,sv sSlash] (by simp) (all:=all) (l:=l) (a:=a) (why:=w) (wh:=p) (n:=n') (by simp -implicitDefEqProofs [hH0]) (s2) (by simp [toO]) ⟨0,by simp⟩ (by simp [lentO]) ?_ (tg:=.mk)
  rintro x cs - ⟨rfl,rfl⟩
  rw [hf2,set_same hH0]
  cases q2
  ·have q1:∀ (o:Ob),(H.set 1 o)[1]? = some o:=fun o=>by rw [List.getElem?_set_self (by omega)]
   have q0:∀ (o:Ob),(H.set 1 o)[0]? = some (.var (rdr all l a w p n')):=fun o=>by rw [List.getElem?_set_ne (by omega)]; exact hH0
   simp -implicitDefEqProofs [f2,f3,hH1,hH2,q0,q1,wrOb,splice,finM,rdr_deep]
   refine ⟨by simp [rdr],?_⟩
   obtain ⟨ha,⟨rfl,rfl,rfl,hb1,hP⟩ | ⟨hw,hP⟩⟩:=hT
   ·refine .inl ⟨.mk o nm tl ty num args pos,a,hP _ ?_,by simp [exA,Ex.cells],hb1,ha,rfl⟩
    rw [drop_at h1]
    refine .stop _ _ _ (str_not fun op hs=>?_)
    rcases (strOf_lv hs).2.2.2 rfl with h | h
    ·simp [h] at hq1
    ·simp [h] at hq2
   ·exact .inr ⟨w,p,.mk o nm tl ty num args pos,a,n',hP,hw,by simp [exA,Ex.cells],ha,rfl⟩
  ·simp only [Bool.and_eq_true,decide_eq_true_eq] at hq2
   obtain ⟨rfl,hsg⟩:=hq2
   have hst:strOf m=some (3,11):=by rw [strOf_at hsg]; decide
   have hlt:=hm.fin a _ h1 (isW_kind hsg).2.2
   obtain ⟨rfl,rfl,hb1,hP⟩:=hT.good
   have g0:∀ X:List Ob,(H++X)[0]? = some (.var (rdr all l a 0 0 n')):=fun X=>by rw [List.getElem?_append_left hl0]; exact hH0
   simp -implicitDefEqProofs [f0]
   refine SC.rd (by simp) [.ptr 0 0] (by simp) (all:=all) (l:=l) (a:=a) (why:=0) (wh:=0) (n:=n') (by simp -implicitDefEqProofs [hH0]) (rnext_ap all l a 0 0 n' h1) (by simp [toO]) ⟨0,by simp⟩ (by simp [lentO]) ?_ (tg:=.mk)
   rintro x cs - ⟨rfl,rfl⟩
   have hf3:(frzT H [.ptr 0 0]).1=H:=by simp
   rw [hf3,set_same hH0]
   have htx:m.text=sSlash:=isW_text hsg
   simp -implicitDefEqProofs [mcells,wrOb,splice,f0,g0,hw,-getElem?_pos,-Int.natCast_add,List.getElem?_cons_zero,List.getElem?_cons_succ,rdr]
   refine SC.rd (by simp) [.ptr 0 0] (by simp) (all:=all) (l:=l) (a:=a + 1) (why:=0) (wh:=0) (n:=n') (by simp -implicitDefEqProofs [gs0,rdr]) (hU (a + 1) (by omega) hlt n' hn0 (by omega)) (by simp [toO]) ⟨0,by simp⟩ (by simp [lentO]) ?_ (tg:=.mk)
   rintro x cs - hO
   obtain ⟨e2,a2,w2,p2,n2,rfl,rfl,hT2,hlt2⟩:=tm_step (e:=.mk o nm tl ty num args pos) h1 hst (by decide) hP hb1 (hO.mono fun r hr=>.row4 hr)
   obtain ⟨o2,nm2,tl2,ty2,num2,args2,pos2⟩:=e2
   simp -implicitDefEqProofs [exA,Ex.cells,wrOb,splice,htx,f3,gs2,gsm,gse,-getElem?_pos,List.getElem?_cons_zero,List.getElem?_cons_succ]
   refine SC.frz (by simp) [iv 11,.agg [iv o,sv nm,sv tl,iv ty,cv (W num.1) (W num.2),.sl args.length (exsA args),iv pos],.agg [iv o2,sv nm2,sv tl2,iv ty2,cv (W num2.1) (W num2.2),.sl args2.length (exsA args2),iv pos2],.agg [iv m.kind,sv sSlash,cv (W m.num.1) (W m.num.2),iv m.pos]] (by simp) (post:=fun x=>x=exA (two 11 (.mk o nm tl ty num args pos) (.mk o2 nm2 tl2 ty2 num2 args2 pos2) m.pos)) (by simpa [exA,Ex.cells,mcells,htx] using ptwo_ap 11 (.mk o nm tl ty num args pos) (.mk o2 nm2 tl2 ty2 num2 args2 pos2) m) (by simp) ?_ (a:=.mk)
   rintro x rfl
   simp -implicitDefEqProofs [exA,two,Ex.cells,wrOb,splice,f3,gs2,-getElem?_pos,List.getElem?_cons_zero,List.getElem?_cons_succ]
   refine ⟨if w2=0 then all.length - a2 else 0,?_,_,a2,w2,p2,n2,hT2,?_,by simp [f0],by simp [f2],by simp [f3],?_,?_,?_⟩
   ·rcases hg with ⟨_,hg⟩ | ⟨h,_⟩
    ·split
     ·rename_i hw1; have:=hlt2 hw1; omega
     ·omega
    ·exact absurd rfl h
   ·by_cases hw1:w2=0
    ·exact .inl ⟨hw1,by rw [if_pos hw1]⟩
    ·exact .inr ⟨hw1,by rw [if_neg hw1]⟩
   ·rw [List.getElem?_set_ne (by omega)]; exact gs0' _ _ _
   ·rw [List.getElem?_set_ne (by omega)]; exact gs1 _ _ _
   ·rw [List.getElem?_set_self (by simp; omega)]; rw [two,Ex.cells]; simp
 ·simp only [Bool.and_eq_true,decide_eq_true_eq] at hq1
  obtain ⟨rfl,hsg⟩:=hq1
  have hst:strOf m=some (3,10):=by rw [strOf_at hsg]; decide
  have hlt:=hm.fin a _ h1 (isW_kind hsg).2.2
  obtain ⟨rfl,rfl,hb1,hP⟩:=hT.good
  have g0:∀ X:List Ob,(H++X)[0]? = some (.var (rdr all l a 0 0 n')):=fun X=>by rw [List.getElem?_append_left hl0]; exact hH0
  simp -implicitDefEqProofs [f0]
  refine SC.rd (by simp) [.ptr 0 0] (by simp) (all:=all) (l:=l) (a:=a) (why:=0) (wh:=0) (n:=n') (by simp -implicitDefEqProofs [hH0]) (rnext_ap all l a 0 0 n' h1) (by simp [toO]) ⟨0,by simp⟩ (by simp [lentO]) ?_ (tg:=.mk)
  rintro x cs - ⟨rfl,rfl⟩
  have hf3:(frzT H [.ptr 0 0]).1=H:=by simp
  rw [hf3,set_same hH0]
  have htx:m.text=sStar:=isW_text hsg
  simp -implicitDefEqProofs [mcells,wrOb,splice,f0,g0,hw,-getElem?_pos,-Int.natCast_add,List.getElem?_cons_zero,List.getElem?_cons_succ,rdr]
  refine SC.rd (by simp) [.ptr 0 0] (by simp) (all:=all) (l:=l) (a:=a + 1) (why:=0) (wh:=0) (n:=n') (by simp -implicitDefEqProofs [gs0,rdr]) (hU (a + 1) (by omega) hlt n' hn0 (by omega)) (by simp [toO]) ⟨0,by simp⟩ (by simp [lentO]) ?_ (tg:=.mk)
  rintro x cs - hO
  obtain ⟨e2,a2,w2,p2,n2,rfl,rfl,hT2,hlt2⟩:=tm_step (e:=.mk o nm tl ty num args pos) h1 hst (by decide) hP hb1 (hO.mono fun r hr=>.row4 hr)
  obtain ⟨o2,nm2,tl2,ty2,num2,args2,pos2⟩:=e2
  simp -implicitDefEqProofs [exA,Ex.cells,wrOb,splice,htx,f3,gs2,gsm,gse,-getElem?_pos,List.getElem?_cons_zero,List.getElem?_cons_succ]
  refine SC.frz (by simp) [iv 10,.agg [iv o,sv nm,sv tl,iv ty,cv (W num.1) (W num.2),.sl args.length (exsA args),iv pos],.agg [iv o2,sv nm2,sv tl2,iv ty2,cv (W num2.1) (W num2.2),.sl args2.length (exsA args2),iv pos2],.agg [iv m.kind,sv sStar,cv (W m.num.1) (W m.num.2),iv m.pos]] (by simp) (post:=fun x=>x=exA (two 10 (.mk o nm tl ty num args pos) (.mk o2 nm2 tl2 ty2 num2 args2 pos2) m.pos)) (by simpa [exA,Ex.cells,mcells,htx] using ptwo_ap 10 (.mk o nm tl ty num args pos) (.mk o2 nm2 tl2 ty2 num2 args2 pos2) m) (by simp) ?_ (a:=.mk)
  rintro x rfl
  simp -implicitDefEqProofs [exA,two,Ex.cells,wrOb,splice,f3,gs2,-getElem?_pos,List.getElem?_cons_zero,List.getElem?_cons_succ]
  refine ⟨if w2=0 then all.length - a2 else 0,?_,_,a2,w2,p2,n2,hT2,?_,by simp [f0],by simp [f2],by simp [f3],?_,?_,?_⟩
  ·rcases hg with ⟨_,hg⟩ | ⟨h,_⟩
   ·split
    ·rename_i hw1; have:=hlt2 hw1; omega
    ·omega
   ·exact absurd rfl h
  ·by_cases hw1:w2=0
   ·exact .inl ⟨hw1,by rw [if_pos hw1]⟩
   ·exact .inr ⟨hw1,by rw [if_neg hw1]⟩
  ·rw [List.getElem?_set_ne (by omega)]; exact gs0' _ _ _
  ·rw [List.getElem?_set_ne (by omega)]; exact gs1 _ _ _
  ·rw [List.getElem?_set_self (by simp; omega)]; rw [two,Ex.cells]; simp
theorem sum_ok (hm:Mks all) (hU:∀ a,b≤a→a < all.length→GC G 159 all l (Lv 3) a) (hb:b < all.length):GC G 147 all l (Lv 2) b:=by
 intro n hn0 hn1
 have hlen:=hm.len
 refine AM.go hmix F_psum (by simp) ?_
 simp -implicitDefEqProofs [c_psum]
 refine SC.rd (by simp) [.ptr 0 0] (by simp) (all:=all) (l:=l) (a:=b) (why:=0) (wh:=0) (n:=n) (by simp) (hU b (by omega) hb n hn0 hn1) (by simp [toO]) ⟨0,by simp⟩ (by simp [lentO]) ?_ (tg:=.mk)
 rintro x cs - hO
 have hst:∃ (e:Ex) (a:Nat) (w p n':Int),x=exA e∧cs=rdr all l a w p n'∧TmI l all b n 2 e a w p n':=by
  rcases hO with ⟨e,a',hP,rfl,ha1,ha2,rfl⟩ | ⟨w,p,e,a',n1,hP,hw,rfl,ha2,rfl⟩
  ·exact ⟨e,a',0,0,n,rfl,rfl,ha2,.inl ⟨rfl,rfl,rfl,ha1,fun r hr=>.row (by decide) (hP) hr⟩⟩
  ·exact ⟨e,a',w,p,n1,rfl,rfl,ha2,.inr ⟨hw,.rowBad (by decide) (hP)⟩⟩
 clear hO
 obtain ⟨e,a,w,p,n',rfl,rfl,hT⟩:=hst
 obtain ⟨o,nm,tl,ty,num,args,pos⟩:=e
 simp -implicitDefEqProofs [exA,Ex.cells,wrOb,splice]
 refine LP.go (TmL l all b n 2) (if w=0 then all.length - a else 0) ⟨_,a,w,p,n',hT,?_,by simp,by simp,by simp,by simp,by simp,by simp [Ex.cells]⟩ ?_
 ·by_cases hw1:w=0
  ·exact .inl ⟨hw1,by rw [if_pos hw1]⟩
  ·exact .inr ⟨hw1,by rw [if_neg hw1]⟩
 clear hT
 unfold c_psum_L0
 rintro g F H ⟨e,a,w,p,n',hT,hg,f0,f2,f3,hH0,hH1,hH2⟩
 obtain ⟨o,nm,tl,ty,num,args,pos⟩:=e
 rw [Ex.cells] at hH2
 have ha:=hT.1
 obtain ⟨m,h1⟩:∃ m,all[a]? = some m:=⟨_,List.getElem?_eq_getElem ha⟩
 have hl0:0 < H.length:=(List.getElem?_eq_some_iff.1 hH0).1
 have hl2:2 < H.length:=(List.getElem?_eq_some_iff.1 hH2).1
 have s1:=ris_ap (G:=G) all l a w p n' sPlus h1
 have s2:=ris_ap (G:=G) all l a w p n' sMinus h1
 obtain ⟨q1,hq1⟩:∃ q,(decide (w=0) && isW m sPlus)=q:=⟨_,rfl⟩
 obtain ⟨q2,hq2⟩:∃ q,(decide (w=0) && isW m sMinus)=q:=⟨_,rfl⟩
 rw [hq1] at s1
 rw [hq2] at s2
 have hf1:(frzT H [.ptr 0 0,sv sPlus]).1=H:=by simp
 have hf2:(frzT H [.ptr 0 0,sv sMinus]).1=H:=by simp
 have hw:IntKind.i64.wrap ((a:Int) + 1)=((a + 1:Nat):Int):=by rw [wrap64 _ (by omega)]; omega
 have gs0:∀ (X:List Ob) (o:Ob),((H++X).set 0 o)[0]? = some o:=fun X o=>by rw [List.getElem?_set_self (by simp; omega)]
 have gs0':∀ (X Y:List Ob) (o:Ob),((H++X).set 0 o++Y)[0]? = some o:=fun X Y o=>by rw [List.getElem?_append_left (by simp; omega)]; exact gs0 X o
 have gs1:∀ (X Y:List Ob) (o':Ob),((H++X).set 0 o'++Y)[1]? = some (.var [iv 0,sv [],sv [],iv 0,cv 0 0,.v (.slice none 0 0),iv 0]):=fun X Y o'=>by
  rw [List.getElem?_append_left (by simp; omega),List.getElem?_set_ne (by omega),List.getElem?_append_left (by omega)]; exact hH1
 have gs2:∀ (X Y:List Ob) (o':Ob),((H++X).set 0 o'++Y)[2]? = some (.var [iv o,sv nm,sv tl,iv ty,cv (W num.1) (W num.2),.sl args.length (exsA args),iv pos]):=fun X Y o'=>by
  rw [List.getElem?_append_left (by simp; omega),List.getElem?_set_ne (by omega),List.getElem?_append_left (by omega)]; exact hH2
 have gsm:∀ (y:Ob) (Y:List Ob) (o':Ob),((H++[y]).set 0 o'++Y)[H.length]? = some y:=fun y Y o'=>by
  rw [List.getElem?_append_left (by simp),List.getElem?_set_ne (by omega),List.getElem?_append_right (by omega)]; simp
 have gse:∀ (y z:Ob) (o':Ob),((H++[y]).set 0 o'++[z])[H.length + 1]? = some z:=fun y z o'=>by
  rw [List.getElem?_append_right (by simp)]; simp
 simp -implicitDefEqProofs [f0]
 refine SC.rd (by simp) [.ptr 0 0,sv sPlus] (by simp) (all:=all) (l:=l) (a:=a) (why:=w) (wh:=p) (n:=n') (by simp -implicitDefEqProofs [hH0]) (s1) (by simp [toO]) ⟨0,by simp⟩ (by simp [lentO]) ?_ (tg:=.mk)
 rintro x cs - ⟨rfl,rfl⟩
 rw [hf1,set_same hH0]
 cases q1
 ·simp -implicitDefEqProofs [f0]
  refine SC.rd (by simp) [.ptr 0 0,sv sMinus] (by simp) (all:=all) (l:=l) (a:=a) (why:=w) (wh:=p) (n:=n') (by simp -implicitDefEqProofs [hH0]) (s2) (by simp [toO]) ⟨0,by simp⟩ (by simp [lentO]) ?_ (tg:=.mk)
  rintro x cs - ⟨rfl,rfl⟩
  rw [hf2,set_same hH0]
  cases q2
  ·have q1:∀ (o:Ob),(H.set 1 o)[1]? = some o:=fun o=>by rw [List.getElem?_set_self (by omega)]
   have q0:∀ (o:Ob),(H.set 1 o)[0]? = some (.var (rdr all l a w p n')):=fun o=>by rw [List.getElem?_set_ne (by omega)]; exact hH0
   simp -implicitDefEqProofs [f2,f3,hH1,hH2,q0,q1,wrOb,splice,finM,rdr_deep]
   refine ⟨by simp [rdr],?_⟩
   obtain ⟨ha,⟨rfl,rfl,rfl,hb1,hP⟩ | ⟨hw,hP⟩⟩:=hT
   ·refine .inl ⟨.mk o nm tl ty num args pos,a,hP _ ?_,by simp [exA,Ex.cells],hb1,ha,rfl⟩
    rw [drop_at h1]
    refine .stop _ _ _ (str_not fun op hs=>?_)
    rcases (strOf_lv hs).2.2.1 rfl with h | h
    ·simp [h] at hq1
    ·simp [h] at hq2
   ·exact .inr ⟨w,p,.mk o nm tl ty num args pos,a,n',hP,hw,by simp [exA,Ex.cells],ha,rfl⟩
  ·simp only [Bool.and_eq_true,decide_eq_true_eq] at hq2
   obtain ⟨rfl,hsg⟩:=hq2
   have hst:strOf m=some (2,9):=by rw [strOf_at hsg]; decide
   have hlt:=hm.fin a _ h1 (isW_kind hsg).2.2
   obtain ⟨rfl,rfl,hb1,hP⟩:=hT.good
   have g0:∀ X:List Ob,(H++X)[0]? = some (.var (rdr all l a 0 0 n')):=fun X=>by rw [List.getElem?_append_left hl0]; exact hH0
   simp -implicitDefEqProofs [f0]
   refine SC.rd (by simp) [.ptr 0 0] (by simp) (all:=all) (l:=l) (a:=a) (why:=0) (wh:=0) (n:=n') (by simp -implicitDefEqProofs [hH0]) (rnext_ap all l a 0 0 n' h1) (by simp [toO]) ⟨0,by simp⟩ (by simp [lentO]) ?_ (tg:=.mk)
   rintro x cs - ⟨rfl,rfl⟩
   have hf3:(frzT H [.ptr 0 0]).1=H:=by simp
   rw [hf3,set_same hH0]
   have htx:m.text=sMinus:=isW_text hsg
   simp -implicitDefEqProofs [mcells,wrOb,splice,f0,g0,hw,-getElem?_pos,-Int.natCast_add,List.getElem?_cons_zero,List.getElem?_cons_succ,rdr]
   refine SC.rd (by simp) [.ptr 0 0] (by simp) (all:=all) (l:=l) (a:=a + 1) (why:=0) (wh:=0) (n:=n') (by simp -implicitDefEqProofs [gs0,rdr]) (hU (a + 1) (by omega) hlt n' hn0 (by omega)) (by simp [toO]) ⟨0,by simp⟩ (by simp [lentO]) ?_ (tg:=.mk)
   rintro x cs - hO
   obtain ⟨e2,a2,w2,p2,n2,rfl,rfl,hT2,hlt2⟩:=tm_step (e:=.mk o nm tl ty num args pos) h1 hst (by decide) hP hb1 hO
   obtain ⟨o2,nm2,tl2,ty2,num2,args2,pos2⟩:=e2
   simp -implicitDefEqProofs [exA,Ex.cells,wrOb,splice,htx,f3,gs2,gsm,gse,-getElem?_pos,List.getElem?_cons_zero,List.getElem?_cons_succ]
   refine SC.frz (by simp) [iv 9,.agg [iv o,sv nm,sv tl,iv ty,cv (W num.1) (W num.2),.sl args.length (exsA args),iv pos],.agg [iv o2,sv nm2,sv tl2,iv ty2,cv (W num2.1) (W num2.2),.sl args2.length (exsA args2),iv pos2],.agg [iv m.kind,sv sMinus,cv (W m.num.1) (W m.num.2),iv m.pos]] (by simp) (post:=fun x=>x=exA (two 9 (.mk o nm tl ty num args pos) (.mk o2 nm2 tl2 ty2 num2 args2 pos2) m.pos)) (by simpa [exA,Ex.cells,mcells,htx] using ptwo_ap 9 (.mk o nm tl ty num args pos) (.mk o2 nm2 tl2 ty2 num2 args2 pos2) m) (by simp) ?_ (a:=.mk)
   rintro x rfl
   simp -implicitDefEqProofs [exA,two,Ex.cells,wrOb,splice,f3,gs2,-getElem?_pos,List.getElem?_cons_zero,List.getElem?_cons_succ]
   refine ⟨if w2=0 then all.length - a2 else 0,?_,_,a2,w2,p2,n2,hT2,?_,by simp [f0],by simp [f2],by simp [f3],?_,?_,?_⟩
   ·rcases hg with ⟨_,hg⟩ | ⟨h,_⟩
    ·split
     ·rename_i hw1; have:=hlt2 hw1; omega
     ·omega
    ·exact absurd rfl h
   ·by_cases hw1:w2=0
    ·exact .inl ⟨hw1,by rw [if_pos hw1]⟩
    ·exact .inr ⟨hw1,by rw [if_neg hw1]⟩
   ·rw [List.getElem?_set_ne (by omega)]; exact gs0' _ _ _
   ·rw [List.getElem?_set_ne (by omega)]; exact gs1 _ _ _
   ·rw [List.getElem?_set_self (by simp; omega)]; rw [two,Ex.cells]; simp
 ·simp only [Bool.and_eq_true,decide_eq_true_eq] at hq1
  obtain ⟨rfl,hsg⟩:=hq1
  have hst:strOf m=some (2,8):=by rw [strOf_at hsg]; decide
  have hlt:=hm.fin a _ h1 (isW_kind hsg).2.2
  obtain ⟨rfl,rfl,hb1,hP⟩:=hT.good
  have g0:∀ X:List Ob,(H++X)[0]? = some (.var (rdr all l a 0 0 n')):=fun X=>by rw [List.getElem?_append_left hl0]; exact hH0
  simp -implicitDefEqProofs [f0]
  refine SC.rd (by simp) [.ptr 0 0] (by simp) (all:=all) (l:=l) (a:=a) (why:=0) (wh:=0) (n:=n') (by simp -implicitDefEqProofs [hH0]) (rnext_ap all l a 0 0 n' h1) (by simp [toO]) ⟨0,by simp⟩ (by simp [lentO]) ?_ (tg:=.mk)
  rintro x cs - ⟨rfl,rfl⟩
  have hf3:(frzT H [.ptr 0 0]).1=H:=by simp
  rw [hf3,set_same hH0]
  have htx:m.text=sPlus:=isW_text hsg
  simp -implicitDefEqProofs [mcells,wrOb,splice,f0,g0,hw,-getElem?_pos,-Int.natCast_add,List.getElem?_cons_zero,List.getElem?_cons_succ,rdr]
  refine SC.rd (by simp) [.ptr 0 0] (by simp) (all:=all) (l:=l) (a:=a + 1) (why:=0) (wh:=0) (n:=n') (by simp -implicitDefEqProofs [gs0,rdr]) (hU (a + 1) (by omega) hlt n' hn0 (by omega)) (by simp [toO]) ⟨0,by simp⟩ (by simp [lentO]) ?_ (tg:=.mk)
  rintro x cs - hO
  obtain ⟨e2,a2,w2,p2,n2,rfl,rfl,hT2,hlt2⟩:=tm_step (e:=.mk o nm tl ty num args pos) h1 hst (by decide) hP hb1 hO
  obtain ⟨o2,nm2,tl2,ty2,num2,args2,pos2⟩:=e2
  simp -implicitDefEqProofs [exA,Ex.cells,wrOb,splice,htx,f3,gs2,gsm,gse,-getElem?_pos,List.getElem?_cons_zero,List.getElem?_cons_succ]
  refine SC.frz (by simp) [iv 8,.agg [iv o,sv nm,sv tl,iv ty,cv (W num.1) (W num.2),.sl args.length (exsA args),iv pos],.agg [iv o2,sv nm2,sv tl2,iv ty2,cv (W num2.1) (W num2.2),.sl args2.length (exsA args2),iv pos2],.agg [iv m.kind,sv sPlus,cv (W m.num.1) (W m.num.2),iv m.pos]] (by simp) (post:=fun x=>x=exA (two 8 (.mk o nm tl ty num args pos) (.mk o2 nm2 tl2 ty2 num2 args2 pos2) m.pos)) (by simpa [exA,Ex.cells,mcells,htx] using ptwo_ap 8 (.mk o nm tl ty num args pos) (.mk o2 nm2 tl2 ty2 num2 args2 pos2) m) (by simp) ?_ (a:=.mk)
  rintro x rfl
  simp -implicitDefEqProofs [exA,two,Ex.cells,wrOb,splice,f3,gs2,-getElem?_pos,List.getElem?_cons_zero,List.getElem?_cons_succ]
  refine ⟨if w2=0 then all.length - a2 else 0,?_,_,a2,w2,p2,n2,hT2,?_,by simp [f0],by simp [f2],by simp [f3],?_,?_,?_⟩
  ·rcases hg with ⟨_,hg⟩ | ⟨h,_⟩
   ·split
    ·rename_i hw1; have:=hlt2 hw1; omega
    ·omega
   ·exact absurd rfl h
  ·by_cases hw1:w2=0
   ·exact .inl ⟨hw1,by rw [if_pos hw1]⟩
   ·exact .inr ⟨hw1,by rw [if_neg hw1]⟩
  ·rw [List.getElem?_set_ne (by omega)]; exact gs0' _ _ _
  ·rw [List.getElem?_set_ne (by omega)]; exact gs1 _ _ _
  ·rw [List.getElem?_set_self (by simp; omega)]; rw [two,Ex.cells]; simp
end
end Go.Proofs.YtgddkgbidhhheaaGreatDoor
set_option linter.unusedVariables false
set_option linter.unusedSimpArgs false
set_option maxRecDepth 100000
namespace Go.Proofs.YtgddkgbidhhheaaGreatDoor
open Go.RowKit Flo Ab Mk Pg
section
variable {G:World→Prop} {all:List M} {l:Lim} {b:Nat} {n:Int}
theorem tm_last {a lv:Nat} {op:Int} {e:Ex} {m:M} (h1:all[a]? = some m) (hs:strOf m=some (lv,op)) (h2:lv < 2) (hP:∀ r,P l (.tail n lv e (all.drop a)) r→P l (.row n lv (all.drop b)) r) (hb:b < a) {x:AV} {cs:List AV}
  (hO:Out (P l (.row n (right lv) (all.drop (a + 1)))) all l (a + 1) n x cs):∃ (e2:Ex) (a2:Nat) (w2 p2 n2:Int),x=exA e2∧cs=rdr all l a2 w2 p2 n2∧Out (P l (.row n lv (all.drop b))) all l b n (exA (two op e e2 m.pos)) (rdr all l a2 w2 p2 n2):=by
 rcases hO with ⟨e2,a2,hP2,rfl,ha1,ha2,rfl⟩ | ⟨w,p,e2,a2,n2,hP2,hw,rfl,ha2,rfl⟩
 ·refine ⟨e2,a2,0,0,n,rfl,rfl,.inl ⟨_,a2,hP _ ?_,rfl,by omega,ha2,rfl⟩⟩
  rw [drop_at h1]; exact .tail1 hs h2 hP2
 ·refine ⟨e2,a2,w,p,n2,rfl,rfl,.inr ⟨w,p,_,a2,n2,hP _ ?_,hw,rfl,ha2,rfl⟩⟩
  rw [drop_at h1]; exact .tailBad _ hs hP2
theorem tm_stop {a lv:Nat} {e:Ex} {m:M} {w p n':Int} (h1:all[a]? = some m) (h:TmI l all b n lv e a w p n') (hs:w=0→∀ op,strOf m≠some (lv,op)):Out (P l (.row n lv (all.drop b))) all l b n (exA e) (rdr all l a w p n'):=by
 obtain ⟨ha,⟨rfl,rfl,rfl,hb1,hP⟩ | ⟨hw,hP⟩⟩:=h
 ·refine .inl ⟨e,a,hP _ ?_,rfl,hb1,ha,rfl⟩
  rw [drop_at h1]
  exact .stop _ _ _ (str_not (hs rfl))
 ·exact .inr ⟨w,p,e,a,n',hP,hw,rfl,ha,rfl⟩
theorem tm_new {lv:Nat} (h:lv < 4) {x:AV} {cs:List AV} (hO:Out (P l (.row n (lv + 1) (all.drop b))) all l b n x cs):∃ (e:Ex) (a:Nat) (w p n':Int),x=exA e∧cs=rdr all l a w p n'∧TmI l all b n lv e a w p n':=by
 rcases hO with ⟨e,a',hP,rfl,ha1,ha2,rfl⟩ | ⟨w,p,e,a',n1,hP,hw,rfl,ha2,rfl⟩
 ·exact ⟨e,a',0,0,n,rfl,rfl,ha2,.inl ⟨rfl,rfl,rfl,ha1,fun r hr=>.row h hP hr⟩⟩
 ·exact ⟨e,a',w,p,n1,rfl,rfl,ha2,.inr ⟨hw,.rowBad h hP⟩⟩
theorem comp_ok (hm : Mks all) (hU : ∀ a, b ≤ a → a < all.length → GC G 147 all l (Lv 2) a) (hb : b < all.length) : GC G 132 all l (Lv 1) b := by
  intro n hn0 hn1
  have hlen := hm.len
  refine AM.go hmix F_pcomp (by simp) ?_
  simp -implicitDefEqProofs [c_pcomp]
  refine SC.rd (by simp) [.ptr 0 0] (by simp) (all := all) (l := l) (a := b) (why := 0) (wh := 0) (n := n) (by simp) (hU b (by omega) hb n hn0 hn1) (by simp [toO]) ⟨0, by simp⟩ (by simp [lentO]) ?_ (tg := .mk)
  rintro x cs - hO
  obtain ⟨e, a, w, p, n', rfl, rfl, hT⟩ := tm_new (by decide) hO
  clear hO
  obtain ⟨o, nm, tl, ty, num, args, pos⟩ := e
  have ha := hT.1
  obtain ⟨m, h1⟩ : ∃ m, all[a]? = some m := ⟨_, List.getElem?_eq_getElem ha⟩
  simp -implicitDefEqProofs [exA, Ex.cells, wrOb, splice]
  refine SC.rd (by simp) [.ptr 0 0] (by simp) (all := all) (l := l) (a := a) (why := w) (wh := p) (n := n') (by simp) (rnext_ap all l a w p n' h1) (by simp [toO]) ⟨0, by simp⟩ (by simp [lentO]) ?_ (tg := .mk)
  rintro x cs - ⟨rfl, rfl⟩
  have s1 := ris_ap (G := G) all l a w p n' sLess h1
  have t1 := rtake_ap (G := G) all l a w p n' sEqEq h1 (by omega)
  have t2 := rtake_ap (G := G) all l a w p n' sLess h1 (by omega)
  obtain ⟨q1, hq1⟩ : ∃ q, (decide (w = 0) && isW m sLess) = q := ⟨_, rfl⟩
  obtain ⟨q2, hq2⟩ : ∃ q, (decide (w = 0) && isW m sEqEq) = q := ⟨_, rfl⟩
  rw [hq1] at s1 t2
  rw [hq2] at t1
  simp -implicitDefEqProofs [mcells, wrOb, splice]
  refine SC.rd (by simp) [.ptr 0 0, sv sLess] (by simp) (all := all) (l := l) (a := a) (why := w) (wh := p) (n := n') (by simp) (s1) (by simp [toO]) ⟨0, by simp⟩ (by simp [lentO]) ?_ (tg := .mk)
  rintro x cs - ⟨rfl, rfl⟩
  cases q1
  · cases q2
    · simp -implicitDefEqProofs
      refine SC.rd (by simp) [.ptr 0 0, sv sEqEq] (by simp) (all := all) (l := l) (a := a) (why := w) (wh := p) (n := n') (by simp) (t1) (by simp [toO]) ⟨0, by simp⟩ (by simp [lentO]) ?_ (tg := .mk)
      rintro x cs - ⟨rfl, rfl⟩
      simp -implicitDefEqProofs
      refine SC.rd (by simp) [.ptr 0 0, sv sLess] (by simp) (all := all) (l := l) (a := a) (why := w) (wh := p) (n := n') (by simp) (t2) (by simp [toO]) ⟨0, by simp⟩ (by simp [lentO]) ?_ (tg := .mk)
      rintro x cs - ⟨rfl, rfl⟩
      simp -implicitDefEqProofs [wrOb, splice, finM]
      refine ⟨by simp [rdr], ?_⟩
      have := tm_stop (e := .mk o nm tl ty num args pos) h1 hT (fun h0 op hs => by
        subst h0
        rcases (strOf_lv hs).2.1 rfl with h | h
        · simp [h] at hq2
        · simp [h] at hq1)
      simpa [exA, Ex.cells, Lv] using this
    · simp only [Bool.and_eq_true, decide_eq_true_eq] at hq2
      obtain ⟨rfl, hsg⟩ := hq2
      have hst : strOf m = some (1, 12) := by rw [strOf_at hsg]; decide
      have hlt := hm.fin a _ h1 (isW_kind hsg).2.2
      obtain ⟨rfl, rfl, hb1, hP⟩ := hT.good
      simp -implicitDefEqProofs
      refine SC.rd (by simp) [.ptr 0 0, sv sEqEq] (by simp) (all := all) (l := l) (a := a) (why := 0) (wh := 0) (n := n') (by simp) (t1) (by simp [toO]) ⟨0, by simp⟩ (by simp [lentO]) ?_ (tg := .mk)
      rintro x cs - ⟨rfl, rfl⟩
      simp -implicitDefEqProofs
      refine SC.rd (by simp) [.ptr 0 0] (by simp) (all := all) (l := l) (a := a + 1) (why := 0) (wh := 0) (n := n') (by simp) (hU (a + 1) (by omega) hlt n' hn0 (by omega)) (by simp [toO]) ⟨0, by simp⟩ (by simp [lentO]) ?_ (tg := .mk)
      rintro x cs - hO
      obtain ⟨e2, a2, w2, p2, n2, rfl, rfl, hT2⟩ := tm_last (e := .mk o nm tl ty num args pos) h1 hst (by decide) hP hb1 hO
      obtain ⟨o2, nm2, tl2, ty2, num2, args2, pos2⟩ := e2
      simp -implicitDefEqProofs [exA, Ex.cells, wrOb, splice]
      refine SC.frz (by simp) [iv 12, .agg [iv o, sv nm, sv tl, iv ty, cv (W num.1) (W num.2), .sl args.length (exsA args), iv pos], .agg [iv o2, sv nm2, sv tl2, iv ty2, cv (W num2.1) (W num2.2), .sl args2.length (exsA args2), iv pos2], .agg [iv m.kind, sv m.text, cv (W m.num.1) (W m.num.2), iv m.pos]] (by simp) (post := fun x => x = exA (two 12 (.mk o nm tl ty num args pos) (.mk o2 nm2 tl2 ty2 num2 args2 pos2) m.pos)) (by simpa [exA, Ex.cells, mcells] using ptwo_ap 12 (.mk o nm tl ty num args pos) (.mk o2 nm2 tl2 ty2 num2 args2 pos2) m) (by simp) ?_ (a := .mk)
      rintro x rfl
      simp -implicitDefEqProofs [exA, two, Ex.cells, wrOb, splice, finM]
      refine ⟨by simp [rdr], ?_⟩
      simpa [exA, two, Ex.cells, exsA, Lv, W0] using hT2
  · simp only [Bool.and_eq_true, decide_eq_true_eq] at hq1
    obtain ⟨rfl, hsg⟩ := hq1
    have hst : strOf m = some (1, 13) := by rw [strOf_at hsg]; decide
    have hlt := hm.fin a _ h1 (isW_kind hsg).2.2
    obtain ⟨rfl, rfl, hb1, hP⟩ := hT.good
    have hne : isW m sEqEq = false := isW_other hsg (by decide)
    rw [hne] at hq2
    subst hq2
    simp -implicitDefEqProofs
    refine SC.rd (by simp) [.ptr 0 0, sv sEqEq] (by simp) (all := all) (l := l) (a := a) (why := 0) (wh := 0) (n := n') (by simp) (t1) (by simp [toO]) ⟨0, by simp⟩ (by simp [lentO]) ?_ (tg := .mk)
    rintro x cs - ⟨rfl, rfl⟩
    simp -implicitDefEqProofs
    refine SC.rd (by simp) [.ptr 0 0, sv sLess] (by simp) (all := all) (l := l) (a := a) (why := 0) (wh := 0) (n := n') (by simp) (t2) (by simp [toO]) ⟨0, by simp⟩ (by simp [lentO]) ?_ (tg := .mk)
    rintro x cs - ⟨rfl, rfl⟩
    simp -implicitDefEqProofs
    refine SC.rd (by simp) [.ptr 0 0] (by simp) (all := all) (l := l) (a := a + 1) (why := 0) (wh := 0) (n := n') (by simp) (hU (a + 1) (by omega) hlt n' hn0 (by omega)) (by simp [toO]) ⟨0, by simp⟩ (by simp [lentO]) ?_ (tg := .mk)
    rintro x cs - hO
    obtain ⟨e2, a2, w2, p2, n2, rfl, rfl, hT2⟩ := tm_last (e := .mk o nm tl ty num args pos) h1 hst (by decide) hP hb1 hO
    obtain ⟨o2, nm2, tl2, ty2, num2, args2, pos2⟩ := e2
    simp -implicitDefEqProofs [exA, Ex.cells, wrOb, splice]
    refine SC.frz (by simp) [iv 13, .agg [iv o, sv nm, sv tl, iv ty, cv (W num.1) (W num.2), .sl args.length (exsA args), iv pos], .agg [iv o2, sv nm2, sv tl2, iv ty2, cv (W num2.1) (W num2.2), .sl args2.length (exsA args2), iv pos2], .agg [iv m.kind, sv m.text, cv (W m.num.1) (W m.num.2), iv m.pos]] (by simp) (post := fun x => x = exA (two 13 (.mk o nm tl ty num args pos) (.mk o2 nm2 tl2 ty2 num2 args2 pos2) m.pos)) (by simpa [exA, Ex.cells, mcells] using ptwo_ap 13 (.mk o nm tl ty num args pos) (.mk o2 nm2 tl2 ty2 num2 args2 pos2) m) (by simp) ?_ (a := .mk)
    rintro x rfl
    simp -implicitDefEqProofs [exA, two, Ex.cells, wrOb, splice, finM]
    refine ⟨by simp [rdr], ?_⟩
    simpa [exA, two, Ex.cells, exsA, Lv, W0] using hT2
theorem cons_ok (hm : Mks all) (hU : ∀ a, b ≤ a → a < all.length → GC G 132 all l (Lv 1) a) (hC : ∀ a, b < a → a < all.length → GC G 111 all l (Lv 0) a) (hb : b < all.length) : GC G 111 all l (Lv 0) b := by
  intro n hn0 hn1
  have hlen := hm.len
  refine AM.go hmix F_pcons (by simp) ?_
  simp -implicitDefEqProofs [c_pcons]
  refine SC.rd (by simp) [.ptr 0 0] (by simp) (all := all) (l := l) (a := b) (why := 0) (wh := 0) (n := n) (by simp) (hU b (by omega) hb n hn0 hn1) (by simp [toO]) ⟨0, by simp⟩ (by simp [lentO]) ?_ (tg := .mk)
  rintro x cs - hO
  obtain ⟨e, a, w, p, n', rfl, rfl, hT⟩ := tm_new (by decide) hO
  clear hO
  obtain ⟨o, nm, tl, ty, num, args, pos⟩ := e
  have ha := hT.1
  obtain ⟨m, h1⟩ : ∃ m, all[a]? = some m := ⟨_, List.getElem?_eq_getElem ha⟩
  simp -implicitDefEqProofs [exA, Ex.cells, wrOb, splice]
  refine SC.rd (by simp) [.ptr 0 0] (by simp) (all := all) (l := l) (a := a) (why := w) (wh := p) (n := n') (by simp) (rnext_ap all l a w p n' h1) (by simp [toO]) ⟨0, by simp⟩ (by simp [lentO]) ?_ (tg := .mk)
  rintro x cs - ⟨rfl, rfl⟩
  have t1 := rtake_ap (G := G) all l a w p n' sColon h1 (by omega)
  obtain ⟨q1, hq1⟩ : ∃ q, (decide (w = 0) && isW m sColon) = q := ⟨_, rfl⟩
  rw [hq1] at t1
  simp -implicitDefEqProofs [mcells, wrOb, splice]
  refine SC.rd (by simp) [.ptr 0 0, sv sColon] (by simp) (all := all) (l := l) (a := a) (why := w) (wh := p) (n := n') (by simp) (t1) (by simp [toO]) ⟨0, by simp⟩ (by simp [lentO]) ?_ (tg := .mk)
  rintro x cs - ⟨rfl, rfl⟩
  cases q1
  · simp -implicitDefEqProofs [wrOb, splice, finM]
    refine ⟨by simp [rdr], ?_⟩
    have := tm_stop (e := .mk o nm tl ty num args pos) h1 hT (fun h0 op hs => by
      subst h0
      have h := (strOf_lv hs).1 rfl
      simp [h] at hq1)
    simpa [exA, Ex.cells, Lv] using this
  · simp only [Bool.and_eq_true, decide_eq_true_eq] at hq1
    obtain ⟨rfl, hsg⟩ := hq1
    have hst : strOf m = some (0, 18) := by rw [strOf_at hsg]; decide
    have hlt := hm.fin a _ h1 (isW_kind hsg).2.2
    obtain ⟨rfl, rfl, hb1, hP⟩ := hT.good
    simp -implicitDefEqProofs
    refine SC.rd (by simp) [.ptr 0 0] (by simp) (all := all) (l := l) (a := a + 1) (why := 0) (wh := 0) (n := n') (by simp) (hC (a + 1) (by omega) hlt n' hn0 (by omega)) (by simp [toO]) ⟨0, by simp⟩ (by simp [lentO]) ?_ (tg := .mk)
    rintro x cs - hO
    obtain ⟨e2, a2, w2, p2, n2, rfl, rfl, hT2⟩ := tm_last (e := .mk o nm tl ty num args pos) h1 hst (by decide) hP hb1 hO
    obtain ⟨o2, nm2, tl2, ty2, num2, args2, pos2⟩ := e2
    simp -implicitDefEqProofs [exA, Ex.cells, wrOb, splice]
    refine SC.frz (by simp) [iv 18, .agg [iv o, sv nm, sv tl, iv ty, cv (W num.1) (W num.2), .sl args.length (exsA args), iv pos], .agg [iv o2, sv nm2, sv tl2, iv ty2, cv (W num2.1) (W num2.2), .sl args2.length (exsA args2), iv pos2], .agg [iv m.kind, sv m.text, cv (W m.num.1) (W m.num.2), iv m.pos]] (by simp) (post := fun x => x = exA (two 18 (.mk o nm tl ty num args pos) (.mk o2 nm2 tl2 ty2 num2 args2 pos2) m.pos)) (by simpa [exA, Ex.cells, mcells] using ptwo_ap 18 (.mk o nm tl ty num args pos) (.mk o2 nm2 tl2 ty2 num2 args2 pos2) m) (by simp) ?_ (a := .mk)
    rintro x rfl
    simp -implicitDefEqProofs [exA, two, Ex.cells, wrOb, splice, finM]
    refine ⟨by simp [rdr], ?_⟩
    simpa [exA, two, Ex.cells, exsA, Lv, W0] using hT2
end
end Go.Proofs.YtgddkgbidhhheaaGreatDoor
