/- Texts joined: Pro Prp Pgs. -/
import Derived.Test.YtgddkgbidhhheaaGreatDoorKway
import Derived.Test.YtgddkgbidhhheaaGreatDoorKwax
set_option linter.unusedVariables false
set_option linter.unusedSimpArgs false
set_option maxRecDepth 100000
namespace Go.Proofs.YtgddkgbidhhheaaGreatDoor
open Go.RowKit Flo Ab Mk Pg
def sameP (pl:Bool) (x y:Pm):Bool:=(x.name == y.name) && decide (x.ty=y.ty) && (!pl || decide (x.pos=y.pos))
def samePs (pl:Bool):List Pm→List Pm→Bool
 | x :: r,y :: r'=>sameP pl x y && samePs pl r r'
 | _,_=>true
def sameF (pl:Bool) (f g:Pg.Fd):Bool:=(f.name == g.name) && decide (f.ty=g.ty) && decide (f.params.length=g.params.length) && (!pl || decide (f.pos=g.pos)) && samePs pl f.params g.params && sameX pl f.body g.body
theorem pmsA_at:∀ {ps:List Pm} {k:Nat} {p:Pm},ps[k]? = some p→((pmsA ps).drop (k * 3)).take 3=[sv p.name,iv p.ty,iv p.pos]
 | [],k,v,h=>by simp at h
 | u :: vs,0,v,h=>by cases h; simp [pmsA]
 | u :: vs,k + 1,v,h=>by
  have:=pmsA_at (ps:=vs) (k:=k) (p:=v) (by simpa using h)
  have e:pmsA (u :: vs)=[sv u.name,iv u.ty,iv u.pos]++pmsA vs:=rfl
  rw [e,show (k + 1) * 3=([sv u.name,iv u.ty,iv u.pos]:List AV).length + k * 3 by simp; omega,← List.drop_drop,List.drop_left]
  exact this
theorem samePs_drop (pl:Bool) {us vs:List Pm} {k:Nat} {e e':Pm} (h:us[k]? = some e) (h':vs[k]? = some e'):samePs pl (us.drop k) (vs.drop k)=(sameP pl e e' && samePs pl (us.drop (k + 1)) (vs.drop (k + 1))):=by
 obtain ⟨h1,rfl⟩:=List.getElem?_eq_some_iff.1 h
 obtain ⟨h2,rfl⟩:=List.getElem?_eq_some_iff.1 h'
 rw [List.drop_eq_getElem_cons h1,List.drop_eq_getElem_cons h2,samePs]
section
variable {G:World→Prop}
def SfI (pl:Bool) (us vs:List Pm) (ca cb:List AV) (g:Nat) (F:Fr) (H:List Ob):Prop:=
 ∃ k:Nat,k + g=us.length∧F 2=some (bv pl)∧F 3=some (.ptr 0 0)∧F 4=some (.ptr 1 0)∧F 7=some (iv k)∧H[0]? = some (.var ca)∧H[1]? = some (.var cb)∧samePs pl us vs=samePs pl (us.drop k) (vs.drop k)
theorem psamef_true (f g:Pg.Fd) (hc:cntX f.body≤1000000) (hp:f.params.length≤1000000):AP Tryz.prog G 35 [.agg (fdA f),.agg (fdA g),bv true] (fun x=>x=bv (sameF true f g)):=by
 obtain ⟨n,us,ty,⟨o,nm,tl,t2,num,as1,p2⟩,p⟩:=f
 obtain ⟨n',vs,ty',⟨o',nm',tl',t2',num',as2,p2'⟩,p'⟩:=g
 dsimp only at hc hp
 have hbody:=psamee_ap (G:=G) true (.mk o nm tl t2 num as1 p2) (.mk o' nm' tl' t2' num' as2 p2') hc
 have hsx:sameF true ⟨n,us,ty,.mk o nm tl t2 num as1 p2,p⟩ ⟨n',vs,ty',.mk o' nm' tl' t2' num' as2 p2',p'⟩=((n == n') && decide (ty=ty') && decide (us.length=vs.length) && (!true || decide (p=p')) && samePs true us vs && sameX true (.mk o nm tl t2 num as1 p2) (.mk o' nm' tl' t2' num' as2 p2')):=rfl
 obtain ⟨R,hR⟩:∃ R,sameF true ⟨n,us,ty,.mk o nm tl t2 num as1 p2,p⟩ ⟨n',vs,ty',.mk o' nm' tl' t2' num' as2 p2',p'⟩=R:=⟨_,rfl⟩
 obtain ⟨B,hB⟩:∃ B,sameX true (.mk o nm tl t2 num as1 p2) (.mk o' nm' tl' t2' num' as2 p2')=B:=⟨_,rfl⟩
 rw [hR,hB] at hsx
 rw [hR]
 rw [hB] at hbody
 simp only [exA,Ex.cells] at hbody
 refine AP.go hmix F_psamef (by simp) ?_
 rcases Classical.em (¬ (n=n')) with h2 | h2
 ·have h2':(n == n')=false:=beq_eq_false_iff_ne.2 h2
  simp -implicitDefEqProofs [c_psamef,fdA,Ex.cells,h2,h2',hsx]
 have h2:=Decidable.not_not.1 h2
 subst h2
 rcases Classical.em (¬ (ty=ty')) with h4 | h4
 ·simp -implicitDefEqProofs [c_psamef,fdA,Ex.cells,h4,hsx]
 have h4:=Decidable.not_not.1 h4
 subst h4
 rcases Classical.em (¬ (us.length=vs.length)) with h6 | h6
 ·have h6':¬ (us.length:Int)=vs.length:=by omega
  simp -implicitDefEqProofs [c_psamef,fdA,Ex.cells,h6,h6',hsx]
 have h6:=Decidable.not_not.1 h6
 have h6':(us.length:Int)=vs.length:=by omega
 rcases Classical.em (¬ (p=p')) with h7 | h7
 ·simp -implicitDefEqProofs [c_psamef,fdA,Ex.cells,eq_true h6,eq_true h6',h7,hsx]
 have h7:=Decidable.not_not.1 h7
 subst h7
 have hRR:R=(samePs true us vs && B):=by rw [hsx,decide_eq_true h6]; simp
 simp -implicitDefEqProofs [c_psamef,fdA,Ex.cells,eq_true h6,eq_true h6']
 refine LP.go (SfI true us vs (fdA ⟨n,us,ty,.mk o nm tl t2 num as1 p2,p⟩) (fdA ⟨n,vs,ty,.mk o' nm' tl' t2' num' as2 p2',p⟩)) us.length ⟨0,by omega,by simp,by simp,by simp,by simp,by simp [fdA,Ex.cells],by simp [fdA,Ex.cells],rfl⟩ ?_
 unfold c_psamef_L0
 rintro g F H ⟨k,hk,f2,f3,f4,f7,hH0,hH1,he⟩
 simp only [fdA,Ex.cells,List.cons_append,List.nil_append] at hH0 hH1
 by_cases hkl:(k:Int) < us.length
 ·have hkl':k < us.length:=by omega
  obtain ⟨⟨xn,xt,xp⟩,hu⟩:∃ e,us[k]? = some e:=⟨_,List.getElem?_eq_getElem hkl'⟩
  obtain ⟨⟨yn,yt,yp⟩,hv⟩:∃ e,vs[k]? = some e:=⟨_,List.getElem?_eq_getElem (by omega)⟩
  have hcu:=pmsA_at hu
  have hcv:=pmsA_at hv
  have hw:IntKind.i64.wrap ((k:Int) + 1)=((k + 1:Nat):Int):=by rw [wrap64 _ (by omega)]; omega
  have hz1:k * 3 + 3≤(pmsA us).length:=by rw [pmsA_len]; omega
  have hz2:k * 3 + 3≤(pmsA vs).length:=by rw [pmsA_len]; omega
  have hkv:k < vs.length:=by omega
  have hl1:1 < H.length:=(List.getElem?_eq_some_iff.1 hH1).1
  have hX0:∀ X:List Ob,(H++X)[0]? = H[0]?:=fun X=>by rw [List.getElem?_append_left (by omega)]
  have hX1:∀ X:List Ob,(H++X)[1]? = H[1]?:=fun X=>by rw [List.getElem?_append_left hl1]
  rw [samePs_drop _ hu hv] at he
  have hsp:sameP true ⟨xn,xt,xp⟩ ⟨yn,yt,yp⟩=((xn == yn) && decide (xt=yt) && (!true || decide (xp=yp))):=rfl
  rw [hsp] at he
  rcases Classical.em (¬ (xn=yn)) with q1 | q1
  ·have q1':(xn == yn)=false:=beq_eq_false_iff_ne.2 q1
   have he2:samePs true us vs=false:=by rw [he,q1']; rfl
   simp -implicitDefEqProofs [f2,f3,f4,f7,hX0,hX1,hH0,hH1,hkl,hcu,hcv,hz1,hz2,hkv,wrOb,splice,q1,q1',hRR,he2,-getElem?_pos,List.getElem?_cons_zero,List.getElem?_cons_succ]
  have q1:=Decidable.not_not.1 q1
  subst q1
  rcases Classical.em (¬ (xt=yt)) with q2 | q2
  ·have he2:samePs true us vs=false:=by rw [he,decide_eq_false q2]; simp
   simp -implicitDefEqProofs [f2,f3,f4,f7,hX0,hX1,hH0,hH1,hkl,hcu,hcv,hz1,hz2,hkv,wrOb,splice,q2,hRR,he2,-getElem?_pos,List.getElem?_cons_zero,List.getElem?_cons_succ]
  have q2:=Decidable.not_not.1 q2
  subst q2
  rcases Classical.em (¬ (xp=yp)) with q3 | q3
  ·have he2:samePs true us vs=false:=by rw [he,decide_eq_false q3]; simp
   simp -implicitDefEqProofs [f2,f3,f4,f7,hX0,hX1,hH0,hH1,hkl,hcu,hcv,hz1,hz2,hkv,wrOb,splice,q3,hRR,he2,-getElem?_pos,List.getElem?_cons_zero,List.getElem?_cons_succ]
  have q3:=Decidable.not_not.1 q3
  subst q3
  have he3:samePs true us vs=samePs true (us.drop (k + 1)) (vs.drop (k + 1)):=by rw [he]; simp
  simp -implicitDefEqProofs [f2,f3,f4,f7,hX0,hX1,hH0,hH1,hkl,hcu,hcv,hz1,hz2,hkv,hw,wrOb,splice,-Int.natCast_add,-getElem?_pos,List.getElem?_cons_zero,List.getElem?_cons_succ]
  exact ⟨g - 1,by omega,k + 1,by omega,by simp [f2],by simp [f3],by simp [f4],by simp,by rw [hX0,hH0]; simp [fdA,Ex.cells],by rw [hX1,hH1]; simp [fdA,Ex.cells],he3⟩
 ·obtain rfl:k=us.length:=by omega
  rw [List.drop_length] at he
  have he2:samePs true us vs=true:=by rw [he]; simp [samePs]
  simp -implicitDefEqProofs [f2,f3,f4,f7,hH0,hH1,hkl]
  refine SC.frz (by simp) [.agg [iv o,sv nm,sv tl,iv t2,cv (W num.1) (W num.2),.sl as1.length (exsA as1),iv p2],.agg [iv o',sv nm',sv tl',iv t2',cv (W num'.1) (W num'.2),.sl as2.length (exsA as2),iv p2'],bv true] (by simp) (post:=fun x=>x=bv B) (by simpa using hbody) (by simp) ?_ (a:=.mk)
  rintro x rfl
  simp -implicitDefEqProofs [hRR,he2]
theorem psamef_false (f g:Pg.Fd) (hc:cntX f.body≤1000000) (hp:f.params.length≤1000000):AP Tryz.prog G 35 [.agg (fdA f),.agg (fdA g),bv false] (fun x=>x=bv (sameF false f g)):=by
 obtain ⟨n,us,ty,⟨o,nm,tl,t2,num,as1,p2⟩,p⟩:=f
 obtain ⟨n',vs,ty',⟨o',nm',tl',t2',num',as2,p2'⟩,p'⟩:=g
 dsimp only at hc hp
 have hbody:=psamee_ap (G:=G) false (.mk o nm tl t2 num as1 p2) (.mk o' nm' tl' t2' num' as2 p2') hc
 have hsx:sameF false ⟨n,us,ty,.mk o nm tl t2 num as1 p2,p⟩ ⟨n',vs,ty',.mk o' nm' tl' t2' num' as2 p2',p'⟩=((n == n') && decide (ty=ty') && decide (us.length=vs.length) && (!false || decide (p=p')) && samePs false us vs && sameX false (.mk o nm tl t2 num as1 p2) (.mk o' nm' tl' t2' num' as2 p2')):=rfl
 obtain ⟨R,hR⟩:∃ R,sameF false ⟨n,us,ty,.mk o nm tl t2 num as1 p2,p⟩ ⟨n',vs,ty',.mk o' nm' tl' t2' num' as2 p2',p'⟩=R:=⟨_,rfl⟩
 obtain ⟨B,hB⟩:∃ B,sameX false (.mk o nm tl t2 num as1 p2) (.mk o' nm' tl' t2' num' as2 p2')=B:=⟨_,rfl⟩
 rw [hR,hB] at hsx
 rw [hR]
 rw [hB] at hbody
 simp only [exA,Ex.cells] at hbody
 refine AP.go hmix F_psamef (by simp) ?_
 rcases Classical.em (¬ (n=n')) with h2 | h2
 ·have h2':(n == n')=false:=beq_eq_false_iff_ne.2 h2
  simp -implicitDefEqProofs [c_psamef,fdA,Ex.cells,h2,h2',hsx]
 have h2:=Decidable.not_not.1 h2
 subst h2
 rcases Classical.em (¬ (ty=ty')) with h4 | h4
 ·simp -implicitDefEqProofs [c_psamef,fdA,Ex.cells,h4,hsx]
 have h4:=Decidable.not_not.1 h4
 subst h4
 rcases Classical.em (¬ (us.length=vs.length)) with h6 | h6
 ·have h6':¬ (us.length:Int)=vs.length:=by omega
  simp -implicitDefEqProofs [c_psamef,fdA,Ex.cells,h6,h6',hsx]
 have h6:=Decidable.not_not.1 h6
 have h6':(us.length:Int)=vs.length:=by omega
 have hRR:R=(samePs false us vs && B):=by rw [hsx,decide_eq_true h6]; simp
 simp -implicitDefEqProofs [c_psamef,fdA,Ex.cells,eq_true h6,eq_true h6']
 refine LP.go (SfI false us vs (fdA ⟨n,us,ty,.mk o nm tl t2 num as1 p2,p⟩) (fdA ⟨n,vs,ty,.mk o' nm' tl' t2' num' as2 p2',p'⟩)) us.length ⟨0,by omega,by simp,by simp,by simp,by simp,by simp [fdA,Ex.cells],by simp [fdA,Ex.cells],rfl⟩ ?_
 unfold c_psamef_L0
 rintro g F H ⟨k,hk,f2,f3,f4,f7,hH0,hH1,he⟩
 simp only [fdA,Ex.cells,List.cons_append,List.nil_append] at hH0 hH1
 by_cases hkl:(k:Int) < us.length
 ·have hkl':k < us.length:=by omega
  obtain ⟨⟨xn,xt,xp⟩,hu⟩:∃ e,us[k]? = some e:=⟨_,List.getElem?_eq_getElem hkl'⟩
  obtain ⟨⟨yn,yt,yp⟩,hv⟩:∃ e,vs[k]? = some e:=⟨_,List.getElem?_eq_getElem (by omega)⟩
  have hcu:=pmsA_at hu
  have hcv:=pmsA_at hv
  have hw:IntKind.i64.wrap ((k:Int) + 1)=((k + 1:Nat):Int):=by rw [wrap64 _ (by omega)]; omega
  have hz1:k * 3 + 3≤(pmsA us).length:=by rw [pmsA_len]; omega
  have hz2:k * 3 + 3≤(pmsA vs).length:=by rw [pmsA_len]; omega
  have hkv:k < vs.length:=by omega
  have hl1:1 < H.length:=(List.getElem?_eq_some_iff.1 hH1).1
  have hX0:∀ X:List Ob,(H++X)[0]? = H[0]?:=fun X=>by rw [List.getElem?_append_left (by omega)]
  have hX1:∀ X:List Ob,(H++X)[1]? = H[1]?:=fun X=>by rw [List.getElem?_append_left hl1]
  rw [samePs_drop _ hu hv] at he
  have hsp:sameP false ⟨xn,xt,xp⟩ ⟨yn,yt,yp⟩=((xn == yn) && decide (xt=yt) && (!false || decide (xp=yp))):=rfl
  rw [hsp] at he
  rcases Classical.em (¬ (xn=yn)) with q1 | q1
  ·have q1':(xn == yn)=false:=beq_eq_false_iff_ne.2 q1
   have he2:samePs false us vs=false:=by rw [he,q1']; rfl
   simp -implicitDefEqProofs [f2,f3,f4,f7,hX0,hX1,hH0,hH1,hkl,hcu,hcv,hz1,hz2,hkv,wrOb,splice,q1,q1',hRR,he2,-getElem?_pos,List.getElem?_cons_zero,List.getElem?_cons_succ]
  have q1:=Decidable.not_not.1 q1
  subst q1
  rcases Classical.em (¬ (xt=yt)) with q2 | q2
  ·have he2:samePs false us vs=false:=by rw [he,decide_eq_false q2]; simp
   simp -implicitDefEqProofs [f2,f3,f4,f7,hX0,hX1,hH0,hH1,hkl,hcu,hcv,hz1,hz2,hkv,wrOb,splice,q2,hRR,he2,-getElem?_pos,List.getElem?_cons_zero,List.getElem?_cons_succ]
  have q2:=Decidable.not_not.1 q2
  subst q2
  have he3:samePs false us vs=samePs false (us.drop (k + 1)) (vs.drop (k + 1)):=by rw [he]; simp
  simp -implicitDefEqProofs [f2,f3,f4,f7,hX0,hX1,hH0,hH1,hkl,hcu,hcv,hz1,hz2,hkv,hw,wrOb,splice,-Int.natCast_add,-getElem?_pos,List.getElem?_cons_zero,List.getElem?_cons_succ]
  exact ⟨g - 1,by omega,k + 1,by omega,by simp [f2],by simp [f3],by simp [f4],by simp,by rw [hX0,hH0]; simp [fdA,Ex.cells],by rw [hX1,hH1]; simp [fdA,Ex.cells],he3⟩
 ·obtain rfl:k=us.length:=by omega
  rw [List.drop_length] at he
  have he2:samePs false us vs=true:=by rw [he]; simp [samePs]
  simp -implicitDefEqProofs [f2,f3,f4,f7,hH0,hH1,hkl]
  refine SC.frz (by simp) [.agg [iv o,sv nm,sv tl,iv t2,cv (W num.1) (W num.2),.sl as1.length (exsA as1),iv p2],.agg [iv o',sv nm',sv tl',iv t2',cv (W num'.1) (W num'.2),.sl as2.length (exsA as2),iv p2'],bv false] (by simp) (post:=fun x=>x=bv B) (by simpa using hbody) (by simp) ?_ (a:=.mk)
  rintro x rfl
  simp -implicitDefEqProofs [hRR,he2]
theorem psamef_ap (pl:Bool) (f g:Pg.Fd) (hc:cntX f.body≤1000000) (hp:f.params.length≤1000000):AP Tryz.prog G 35 [.agg (fdA f),.agg (fdA g),bv pl] (fun x=>x=bv (sameF pl f g)):=by
 cases pl
 ·exact psamef_false f g hc hp
 ·exact psamef_true f g hc hp
end
end Go.Proofs.YtgddkgbidhhheaaGreatDoor
set_option linter.unusedVariables false
set_option linter.unusedSimpArgs false
set_option maxRecDepth 100000
namespace Go.Proofs.YtgddkgbidhhheaaGreatDoor
open Go.RowKit Flo Ab Mk Pg
def sameFs (pl:Bool):List Pg.Fd→List Pg.Fd→Bool
 | x :: r,y :: r'=>sameF pl x y && sameFs pl r r'
 | _,_=>true
def sameG (pl:Bool) (a b:List Pg.Fd):Bool:=decide (a.length=b.length) && sameFs pl a b
theorem fdsA_at:∀ {ps:List Pg.Fd} {k:Nat} {p:Pg.Fd},ps[k]? = some p→((fdsA ps).drop (k * 11)).take 11=fdA p
 | [],k,v,h=>by simp at h
 | u :: vs,0,v,h=>by cases h; rw [show fdsA (u :: vs)=fdA u++fdsA vs from rfl,Nat.zero_mul,List.drop_zero,List.take_left' (fdA_len _)]
 | u :: vs,k + 1,v,h=>by
  have:=fdsA_at (ps:=vs) (k:=k) (p:=v) (by simpa using h)
  rw [show fdsA (u :: vs)=fdA u++fdsA vs from rfl,show (k + 1) * 11=(fdA u).length + k * 11 by rw [fdA_len]; omega,← List.drop_drop,List.drop_left]
  exact this
theorem sameFs_drop (pl:Bool) {us vs:List Pg.Fd} {k:Nat} {e e':Pg.Fd} (h:us[k]? = some e) (h':vs[k]? = some e'):sameFs pl (us.drop k) (vs.drop k)=(sameF pl e e' && sameFs pl (us.drop (k + 1)) (vs.drop (k + 1))):=by
 obtain ⟨h1,rfl⟩:=List.getElem?_eq_some_iff.1 h
 obtain ⟨h2,rfl⟩:=List.getElem?_eq_some_iff.1 h'
 rw [List.drop_eq_getElem_cons h1,List.drop_eq_getElem_cons h2,sameFs]
theorem fdA_deep (f:Pg.Fd):(fdA f).all deep1=true:=by obtain ⟨n,us,ty,⟨o,nm,tl,t2,num,as1,p2⟩,p⟩:=f; rfl
structure Small (fs:List Pg.Fd):Prop where
 len:fs.length≤1000000
 par:∀ f ∈ fs,f.params.length≤1000000
 cnt:∀ f ∈ fs,cntX f.body≤1000000
section
variable {G:World→Prop}
def SgI (pl:Bool) (us vs:List Pg.Fd) (g:Nat) (F:Fr) (H:List Ob):Prop:=
 ∃ k:Nat,k + g=us.length∧F 2=some (bv pl)∧F 3=some (.ptr 0 0)∧F 4=some (.ptr 1 0)∧F 7=some (iv k)∧H[0]? = some (.var [.sl us.length (fdsA us)])∧H[1]? = some (.var [.sl vs.length (fdsA vs)])∧sameFs pl us vs=sameFs pl (us.drop k) (vs.drop k)
theorem psame_ap (pl:Bool) (us vs:List Pg.Fd) (hs:Small us):AP Tryz.prog G 23 [.agg [.sl us.length (fdsA us)],.agg [.sl vs.length (fdsA vs)],bv pl] (fun x=>x=bv (sameG pl us vs)):=by
 have hul:=hs.len
 refine AP.go hmix F_psame (by simp) ?_
 by_cases h6:us.length=vs.length
 ·have h6':(us.length:Int)=vs.length:=by omega
  have hRR:sameG pl us vs=sameFs pl us vs:=by unfold sameG; rw [decide_eq_true h6,Bool.true_and]
  simp -implicitDefEqProofs [c_psame,eq_true h6,eq_true h6',hRR]
  refine LP.go (SgI pl us vs) us.length ⟨0,by omega,by simp,by simp,by simp,by simp,by simp,by simp,rfl⟩ ?_
  unfold c_psame_L0
  rintro g F H ⟨k,hk,f2,f3,f4,f7,hH0,hH1,he⟩
  by_cases hkl:(k:Int) < us.length
  ·have hkl':k < us.length:=by omega
   obtain ⟨e,hu⟩:∃ e,us[k]? = some e:=⟨_,List.getElem?_eq_getElem hkl'⟩
   obtain ⟨e',hv⟩:∃ e,vs[k]? = some e:=⟨_,List.getElem?_eq_getElem (by omega)⟩
   have hcu:=fdsA_at hu
   have hcv:=fdsA_at hv
   have hw:IntKind.i64.wrap ((k:Int) + 1)=((k + 1:Nat):Int):=by rw [wrap64 _ (by omega)]; omega
   have hz1:k * 11 + 11≤(fdsA us).length:=by rw [fdsA_len]; omega
   have hz2:k * 11 + 11≤(fdsA vs).length:=by rw [fdsA_len]; omega
   have hkv:k < vs.length:=by omega
   rw [sameFs_drop _ hu hv] at he
   have hih:=psamef_ap (G:=G) pl e e' (hs.cnt e (List.mem_of_getElem? hu)) (hs.par e (List.mem_of_getElem? hu))
   simp -implicitDefEqProofs [f2,f3,f4,f7,hH0,hH1,hkl,hcu,hcv,hz1,hz2,hkv]
   refine DC.go [.agg (fdA e),.agg (fdA e'),bv pl] (bv (sameF pl e e')) (by simp) (by simpa using hih) (by simp [fdA_deep]) (by simp) ?_ (a:=.mk)
   cases hq:sameF pl e e'
   ·have he2:sameFs pl us vs=false:=by rw [he,hq]; rfl
    simp -implicitDefEqProofs [he2]
   ·rw [hq,Bool.true_and] at he
    simp -implicitDefEqProofs [f7,hw,-Int.natCast_add]
    exact ⟨g - 1,by omega,k + 1,by omega,by simp [f2],by simp [f3],by simp [f4],by simp,hH0,hH1,he⟩
  ·obtain rfl:k=us.length:=by omega
   rw [List.drop_length] at he
   have he2:sameFs pl us vs=true:=by rw [he]; simp [sameFs]
   simp -implicitDefEqProofs [f2,f3,f4,f7,hH0,hH1,hkl,he2]
 ·have h6':¬ (us.length:Int)=vs.length:=by omega
  have hRR:sameG pl us vs=false:=by unfold sameG; rw [decide_eq_false h6]; rfl
  simp -implicitDefEqProofs [c_psame,h6,h6',hRR]
end
end Go.Proofs.YtgddkgbidhhheaaGreatDoor
set_option linter.unusedVariables false
set_option linter.unusedSimpArgs false
namespace Go.Proofs.YtgddkgbidhhheaaGreatDoor
namespace Pg
open Mk
def wF (f:Pg.Fd):Nat:=1 + f.params.length + cntX f.body
def wV:Vl→Nat
 | .u=>1
 | .e x=>cntX x
 | .nm _=>1
 | .ty _=>1
 | .asx xs=>cntXs xs
 | .ps ps=>ps.length
 | .fs fs=>(fs.map wF).sum
def wVs (vs:List Vl):Nat:=(vs.map wV).sum
def szJ:Job→Nat
 | .seq _ _ ms=>ms.length
 | .expr _ ms=>ms.length
 | .row _ _ ms=>ms.length
 | .tail _ _ e ms=>cntX e + ms.length
 | .unit _ ms=>ms.length
 | .args _ us ms=>cntXs us + ms.length
 | .pars ps ms=>ps.length + ms.length
 | .prog fs ms=>(fs.map wF).sum + ms.length
theorem cons_ok {v:Vl} {r:Res} {vs:List Vl} {ms:List M} (h:r.cons v=.ok vs ms):∃ us,vs=v :: us∧r=.ok us ms:=by
 cases r with
 | ok us ms'=>cases h; exact ⟨us,rfl,rfl⟩
 | bad w p=>cases h
theorem map_ok {f:List Vl→List Vl} {r:Res} {vs:List Vl} {ms:List M} (h:r.map f=.ok vs ms):∃ us,vs=f us∧r=.ok us ms:=by
 cases r with
 | ok us ms'=>cases h; exact ⟨us,rfl,rfl⟩
 | bad w p=>cases h
theorem wVs_cons (v:Vl) (vs:List Vl):wVs (v :: vs)=wV v + wVs vs:=by simp [wVs]
theorem wVs_nil:wVs []=0:=rfl
theorem cntXs_snoc (us:List Ex) (e:Ex):cntXs (us++[e])=cntXs us + cntX e:=by
 induction us with
 | nil=>simp [cntXs]
 | cons u r ih=>rw [List.cons_append,cntXs,ih,cntXs]; omega
theorem bind_w (m:M) (vs:List Vl):wVs (bindEx m vs)≤1 + wVs vs:=by
 unfold bindEx
 split<;>simp only [wVs_cons,wVs_nil,wV,cntX,cntXs]<;>omega
theorem if_w (m:M) (vs:List Vl):wVs (ifEx m vs)≤1 + wVs vs:=by
 unfold ifEx
 split<;>simp only [wVs_cons,wVs_nil,wV,cntX,cntXs]<;>omega
theorem call_w (m:M) (vs:List Vl):wVs (callEx m vs)≤1 + wVs vs:=by
 unfold callEx
 split<;>simp only [wVs_cons,wVs_nil,wV,cntX,cntXs]<;>omega
theorem par_w (vs:List Vl):wVs (parEx vs)≤1 + wVs vs:=by
 unfold parEx
 split<;>simp only [wVs_cons,wVs_nil,wV,cntX,cntXs]<;>omega
theorem fail_w (m:M) (vs:List Vl):wVs (failEx m vs)≤1 + wVs vs:=by
 unfold failEx
 split<;>simp only [wVs_cons,wVs_nil,wV,cntX,cntXs]<;>omega
theorem one_w (op:Int) (m:M) (vs:List Vl):wVs (oneEx op m vs)≤1 + wVs vs:=by
 unfold oneEx
 split<;>simp only [wVs_cons,wVs_nil,wV,cntX,cntXs]<;>omega
theorem def_w {vs:List Vl} {f:Pg.Fd} (h:defEx vs=some f):wF f≤wVs vs:=by
 unfold defEx at h
 split at h
 ·cases h
  simp only [wVs_cons,wVs_nil,wV,wF]; omega
 ·cases h
theorem size_le {l:Lim} {j:Job} {r:Res} (h:P l j r):∀ {vs:List Vl} {ms':List M},r=.ok vs ms'→wVs vs + ms'.length≤szJ j:=by
 induction h with
 | nil n ms=>intro vs ms' e; cases e; simp [wVs,szJ]
 | w h hr ih=>intro vs ms' e; obtain ⟨us,rfl,eq⟩:=cons_ok e; have:=ih eq; simp only [szJ,wVs_cons,wV,List.length_cons] at *; omega
 | nm h hr ih=>intro vs ms' e; obtain ⟨us,rfl,eq⟩:=cons_ok e; have:=ih eq; simp only [szJ,wVs_cons,wV,List.length_cons] at *; omega
 | cn h hk hr ih=>intro vs ms' e; obtain ⟨us,rfl,eq⟩:=cons_ok e; have:=ih eq; simp only [szJ,wVs_cons,wV,List.length_cons] at *; omega
 | ty h hr ih=>intro vs ms' e; obtain ⟨us,rfl,eq⟩:=cons_ok e; have:=ih eq; simp only [szJ,wVs_cons,wV,List.length_cons] at *; omega
 | e h hr ih1 ih2=>intro vs ms' e; obtain ⟨us,rfl,eq⟩:=cons_ok e; have h1:=ih1 rfl; have h2:=ih2 eq; simp only [szJ,wVs_cons,wVs_nil,wV] at *; omega
 | ps h hr ih1 ih2=>intro vs ms' e; obtain ⟨us,rfl,eq⟩:=cons_ok e; have h1:=ih1 rfl; have h2:=ih2 eq; simp only [szJ,wVs_cons,wVs_nil,wV,List.length_nil] at *; omega
 | bind h hn hr ih=>intro vs ms' e; obtain ⟨us,rfl,eq⟩:=map_ok e; have h1:=ih eq; simp only [szJ,List.length_cons] at *; exact Nat.le_trans (Nat.add_le_add_right (bind_w _ us) _) (by omega)
 | cond h hr ih=>intro vs ms' e; obtain ⟨us,rfl,eq⟩:=map_ok e; have h1:=ih eq; simp only [szJ,List.length_cons] at *; exact Nat.le_trans (Nat.add_le_add_right (if_w _ us) _) (by omega)
 | expr h h' hr ih=>intro vs ms' e; exact ih e
 | row4 hr ih=>intro vs ms' e; exact ih e
 | row h h1 hr ih1 ih2=>intro vs ms' e; have h1:=ih1 rfl; have h2:=ih2 e; simp only [szJ,wVs_cons,wVs_nil,wV] at *; omega
 | stop n e ms h=>intro vs ms' e; cases e; simp [szJ,wVs_cons,wVs_nil,wV]
 | tail1 h hl hr ih=>intro vs ms' e; cases e; have h1:=ih rfl; simp only [szJ,wVs_cons,wVs_nil,wV,two,cntX,cntXs,List.length_cons] at *; omega
 | tail2 h hl h1 hr ih1 ih2=>intro vs ms' e; have h1:=ih1 rfl; have h2:=ih2 e; simp only [szJ,wVs_cons,wVs_nil,wV,two,cntX,cntXs,List.length_cons] at *; omega
 | num n ms h=>intro vs ms' e; cases e; simp only [szJ,wVs_cons,wVs_nil,wV,cntX,cntXs,List.length_cons]; omega
 | var n ms h hk=>intro vs ms' e; cases e; simp only [szJ,wVs_cons,wVs_nil,wV,cntX,cntXs,List.length_cons]; omega
 | call h hk hr ih=>intro vs ms' e; obtain ⟨us,rfl,eq⟩:=map_ok e; have h1:=ih eq; simp only [szJ,List.length_cons,cntXs] at *; exact Nat.le_trans (Nat.add_le_add_right (call_w _ us) _) (by omega)
 | par h hr ih=>intro vs ms' e; obtain ⟨us,rfl,eq⟩:=map_ok e; have h1:=ih eq; simp only [szJ,List.length_cons] at *; exact Nat.le_trans (Nat.add_le_add_right (par_w us) _) (by omega)
 | word0 n ms h=>intro vs ms' e; cases e; simp only [szJ,wVs_cons,wVs_nil,wV,cntX,cntXs,List.length_cons]; omega
 | fail h hr ih=>intro vs ms' e; obtain ⟨us,rfl,eq⟩:=map_ok e; have h1:=ih eq; simp only [szJ,List.length_cons] at *; exact Nat.le_trans (Nat.add_le_add_right (fail_w _ us) _) (by omega)
 | word1 h hr ih=>intro vs ms' e; obtain ⟨us,rfl,eq⟩:=map_ok e; have h1:=ih eq; simp only [szJ,List.length_cons] at *; exact Nat.le_trans (Nat.add_le_add_right (one_w _ _ us) _) (by omega)
 | aStop n us ms h=>intro vs ms' e; cases e; simp only [szJ,wVs_cons,wVs_nil,wV,List.length_cons]; omega
 | aNext0 h h1 hr ih1 ih2=>intro vs ms' e; have h1:=ih1 rfl; have h2:=ih2 e; simp only [szJ,wVs_cons,wVs_nil,wV,cntXs,List.length_cons] at *; omega
 | aNext ha hc h1 hr ih1 ih2=>intro vs ms' e; have h1:=ih1 rfl; have h2:=ih2 e; simp only [szJ,wVs_cons,wVs_nil,wV,cntXs_snoc,List.length_cons] at *; omega
 | pStop ps ms h=>intro vs ms' e; cases e; simp only [szJ,wVs_cons,wVs_nil,wV,List.length_cons]; omega
 | pNext0 h h1 hr ih1 ih2=>intro vs ms' e; have h1:=ih1 rfl; have h2:=ih2 e; simp only [szJ,wVs_cons,wVs_nil,wV,List.length_cons,List.length_nil] at *; omega
 | pNext ha hc h1 hr ih1 ih2=>intro vs ms' e; have h1:=ih1 rfl; have h2:=ih2 e; simp only [szJ,wVs_cons,wVs_nil,wV,List.length_cons,List.length_append,List.length_nil] at *; omega
 | progEnd ms h hf=>intro vs ms' e; cases e; simp only [szJ,wVs_cons,wVs_nil,wV,List.length_cons]; omega
 | prog h h1 hd hr ih1 ih2=>intro vs ms' e; have h1:=ih1 rfl; have h2:=ih2 e; have h3:=def_w hd; simp only [szJ,List.length_cons,List.map_append,List.map_cons,List.map_nil,List.sum_append,List.sum_cons,List.sum_nil] at *; omega
 | _=>intro vs ms' e; cases e
end Pg
open Pg Mk
theorem sum_mem:∀ {fs:List Pg.Fd} {f:Pg.Fd},f ∈ fs→wF f≤(fs.map wF).sum
 | u :: r,f,h=>by
  rw [List.map_cons,List.sum_cons]
  rcases List.mem_cons.1 h with rfl | h
  ·omega
  ·have:=sum_mem h; omega
theorem sum_len:∀ fs:List Pg.Fd,fs.length≤(fs.map wF).sum
 | []=>Nat.zero_le _
 | f :: r=>by
  have:=sum_len r
  have h2:1≤wF f:=by unfold wF; omega
  rw [List.map_cons,List.sum_cons,List.length_cons]; omega
theorem small_of {l:Lim} {ms rest:List M} {fs:List Pg.Fd} (h:P l (.prog [] ms) (.ok [.fs fs] rest)) (hl:ms.length≤1000000):Small fs:=by
 have h1:=size_le h rfl
 simp only [szJ,wVs_cons,wVs_nil,wV,List.map_nil,List.sum_nil] at h1
 have h2:=sum_len fs
 refine ⟨by omega,fun f hf=>?_,fun f hf=>?_⟩
 ·have:=sum_mem hf; have h3:f.params.length≤wF f:=(by unfold wF; omega); omega
 ·have:=sum_mem hf; have h3:cntX f.body≤wF f:=(by unfold wF; omega); omega
end Go.Proofs.YtgddkgbidhhheaaGreatDoor
