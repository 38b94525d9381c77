/- Texts joined: Prj Prk. -/
import Derived.Test.YtgddkgbidhhheaaGreatDoorKtaz
set_option linter.unusedVariables false
set_option linter.unusedSimpArgs false
set_option maxRecDepth 100000
namespace Go.Proofs.YtgddkgbidhhheaaGreatDoor
open Go.RowKit Flo Ab Mk Pg
section
variable {G:World→Prop} {all:List M} {l:Lim} {b:Nat} {n:Int} {Q:Res→Prop}
theorem expr_all (hm:Mks all):∀ (d b:Nat),all.length - b≤d→b < all.length→GC G 81 all l .expr b∧GC G 111 all l (Lv 0) b
 | 0,b,h,hb=>by omega
 | d + 1,b,h,hb=>by
  have ih:=expr_all hm d
  have hX:∀ a,b≤a→HX G all l a:=fun a ha a' h1 h2=>(ih a' (by omega) h2).1
  have hU:∀ a,b≤a→a < all.length→GC G 170 all l .unit a:=fun a h1 h2=>unit_ok hm (hX a h1) h2
  have hT:∀ a,b≤a→a < all.length→GC G 159 all l (Lv 3) a:=fun a h1 h2=>term_ok hm (fun a' h3 h4=>hU a' (by omega) h4) h2
  have hS:∀ a,b≤a→a < all.length→GC G 147 all l (Lv 2) a:=fun a h1 h2=>sum_ok hm (fun a' h3 h4=>hT a' (by omega) h4) h2
  have hK:∀ a,b≤a→a < all.length→GC G 132 all l (Lv 1) a:=fun a h1 h2=>comp_ok hm (fun a' h3 h4=>hS a' (by omega) h4) h2
  have hc:=cons_ok hm hK (fun a h1 h2=>(ih a (by omega) h2).2) hb
  exact ⟨expr_ok hm (hX b (by omega)) hc hb,hc⟩
theorem HX_all (hm:Mks all):HX G all l b:=fun a _ ha=>(expr_all hm _ a (Nat.le_refl _) ha).1
theorem cn_good (hm:Mks all) {a:Nat} {m:M} (h0:all[a]? = some m) {k most:Int} (hk:m.kind=0→k < most) {vs:List Vl} {its:List It} (hb:b≤a) (hQ:∀ r,P l (.seq 0 (.cn k most :: its) (all.drop a)) r→Q (Res.pre vs r)) :
  AM Tryz.prog G 77 [.ptr 0 0] (rdr all l a 0 0 0) (fun x cs=>∃ m:M,x=.agg (mcells m)∧∃ (a:Nat) (w p n':Int),cs=rdr all l a w p n'∧Sq l all b 0 Q (vs++[.nm m]) its a w p n'):=by
 have hlen:=hm.len
 have ha:=(List.getElem?_eq_some_iff.1 h0).1
 refine AM.mono (rname_ap all l a 0 0 0 h0 (by omega)) ?_
 intro x cs hx
 rw [if_pos rfl] at hx
 by_cases hk0:m.kind=0
 ·rw [if_pos hk0] at hx
  obtain ⟨rfl,rfl⟩:=hx
  refine ⟨_,rfl,a + 1,0,0,_,rfl,hm.fin a _ h0 (by omega),.inl ⟨rfl,rfl,rfl,by omega,fun r hr=>?_⟩⟩
  rw [pre_snoc]
  refine hQ _ ?_
  rw [drop_at h0]; exact .cn hk0 (hk hk0) hr
 ·rw [if_neg hk0] at hx
  obtain ⟨rfl,rfl⟩:=hx
  refine ⟨_,rfl,a,21,_,_,rfl,ha,.inr ⟨by omega,?_⟩⟩
  have:=hQ (.bad 21 m.pos) (by rw [drop_at h0]; exact .cnBad _ _ _ _ _ hk0)
  rwa [pre_bad] at this
theorem cn_big {a:Nat} {m:M} (h0:all[a]? = some m) {k most:Int} (hk:m.kind=0) (hk':most≤k) {vs:List Vl} {its:List It} (hQ:∀ r,P l (.seq 0 (.cn k most :: its) (all.drop a)) r→Q (Res.pre vs r)) (vs':List Vl) (its':List It) (n':Int):Sq l all b 0 Q vs' its' a 22 m.pos n':=by
 have ha:=(List.getElem?_eq_some_iff.1 h0).1
 refine ⟨ha,.inr ⟨by omega,?_⟩⟩
 have:=hQ (.bad 22 m.pos) (by rw [drop_at h0]; exact .cnBig _ _ _ hk hk')
 rwa [pre_bad] at this
theorem rnext_ep (a:Nat) (why wh n:Int) {m:M} (h:all[a]? = some m):AP Tryz.prog G 48 [.ep (rdr all l a why wh n) 0] (fun x=>x=.agg (mcells m)):=by
 have hat:=mksA_at h
 have hal:a < all.length:=(List.getElem?_eq_some_iff.1 h).1
 have hal':(a:Int) < all.length:=by omega
 have hvz:a * 4 + 4≤(mksA all).length:=by rw [mksA_len]; omega
 refine AP.go hmix F_pnext (by simp) ?_
 simp -implicitDefEqProofs [c_pnext,rdr,hal,hal',hat,hvz,wrOb,splice,mcells]
def pmsA (ps:List Pm):List AV:=ps.flatMap fun p=>[sv p.name,iv p.ty,iv p.pos]
def fdA (f:Pg.Fd):List AV:=[sv f.name,.sl f.params.length (pmsA f.params),iv f.ty]++f.body.cells++[iv f.pos]
def PsQ (l:Lim) (Q:Res→Prop) (vs:List Vl) (its:List It) (r:Res):Prop:=
 match r with
 | .ok [.ps xs] ms'=>∀ r',P l (.seq 0 its ms') r'→Q (Res.pre vs (r'.cons (.ps xs)))
 | .bad w p=>Q (.bad w p)
 | _=>True
def PmQ (l:Lim) (Q:Res→Prop) (ps:List Pm) (r:Res):Prop:=
 match r with
 | .ok [.nm x,.ty t] ms'=>∀ r',P l (.pars (ps++[⟨x.text,t,x.pos⟩]) ms') r'→Q r'
 | .bad w p=>Q (.bad w p)
 | _=>True
def PsI (l:Lim) (all:List M) (b:Nat) (Q:Res→Prop) (ps:List Pm) (a:Nat) (w p n':Int):Prop:=
 a < all.length∧((w=0∧p=0∧n'=0∧b < a∧ps.length≤a∧∀ r,P l (.pars ps (all.drop a)) r→Q r)∨(w≠0∧Q (.bad w p)))
def PrI (l:Lim) (all:List M) (b:Nat) (Q:Res→Prop) (ps:List Pm) (a:Nat) (w p n':Int):Prop:=
 a < all.length∧((w=0∧p=0∧n'=0∧b < a∧ps.length≤a∧∀ r,P l (.seq 0 [.cn ps.length l.arity,.ty] (all.drop a)) r→PmQ l Q ps r)∨(w≠0∧Q (.bad w p)))
theorem PsI.new {vs:List Vl} {its:List It} {a:Nat} {w p n':Int} (h:Sq l all b 0 Q vs (.ps :: its) a w p n'):PsI l all b (PsQ l Q vs its) [] a w p n':=by
 obtain ⟨ha,⟨h1,h2,h3,h4,h5⟩ | ⟨h1,h2⟩⟩:=h
 ·refine ⟨ha,.inl ⟨h1,h2,h3,h4,by simp,fun r hr=>?_⟩⟩
  unfold PsQ
  split
  ·intro r' hr'; exact h5 _ (.ps hr hr')
  ·have:=h5 _ (.psBad _ hr); rwa [pre_bad] at this
  ·trivial
 ·exact ⟨ha,.inr ⟨h1,h2⟩⟩
theorem Sq.new_ps {vs:List Vl} {its:List It} {a:Nat} {w p n':Int} (h:Sq l all b 0 Q vs (.ps :: its) a w p n'):PsI l all b (PsQ l Q vs its) [] a w p n':=PsI.new h
theorem PrI.zero {a:Nat} {p n':Int} (h:PsI l all b Q [] a 0 p n') {m:M} (h0:all[a]? = some m) (hc:isW m sClose=false):PrI l all b Q [] a 0 p n':=by
 obtain ⟨ha,⟨_,rfl,rfl,hb,hl,h1⟩ | ⟨hw,hP⟩⟩:=h
 ·refine ⟨ha,.inl ⟨rfl,rfl,rfl,hb,hl,fun r hr=>?_⟩⟩
  rw [drop_at h0] at hr
  unfold PmQ
  split
  ·intro r' hr'; exact h1 _ (by rw [drop_at h0]; exact .pNext0 hc hr hr')
  ·exact h1 _ (by rw [drop_at h0]; exact .pBad0 hc hr)
  ·trivial
 ·exact absurd rfl hw
theorem pars_comma (hm:Mks all) {ps:List Pm} {a:Nat} {p n':Int} (h:PsI l all b Q ps a 0 p n') (hu:ps≠[]) {m:M} (h0:all[a]? = some m) (hc:isW m sClose=false):AM Tryz.prog G 78 [.ptr 0 0,sv sComma] (rdr all l a 0 p n')
  (fun x cs=>x=.tup []∧∃ (a1:Nat) (w p n':Int),cs=rdr all l a1 w p n'∧PrI l all b Q ps a1 w p n'∧(w=0→a < a1)):=by
 have hlen:=hm.len
 obtain ⟨ha,⟨_,rfl,rfl,hb,hl,h1⟩ | ⟨hw,hP⟩⟩:=h
 ·refine AM.mono (rwant_ap all l a 0 0 0 sComma h0 (by omega)) ?_
  rintro x cs ⟨rfl,rfl⟩
  refine ⟨rfl,?_⟩
  unfold wantS
  rw [if_pos rfl]
  cases hq:isW m sComma
  ·refine ⟨a,21,m.pos,0,by simp [hq],⟨ha,.inr ⟨by omega,h1 _ ?_⟩⟩,by omega⟩
   rw [drop_at h0]; exact .pSep _ hc hu hq
  ·obtain ⟨hk0,hk2,hk4⟩:=isW_kind hq
   refine ⟨a + 1,0,0,0,by simp [hq],⟨hm.fin a _ h0 hk4,.inl ⟨rfl,rfl,rfl,by omega,by omega,fun r hr=>?_⟩⟩,by omega⟩
   unfold PmQ
   split
   ·intro r' hr'; exact h1 _ (by rw [drop_at h0]; exact .pNext hu hq hr hr')
   ·exact h1 _ (by rw [drop_at h0]; exact .pBad hu hq hr)
   ·trivial
 ·exact absurd rfl hw
theorem pars_close (hm:Mks all) {vs:List Vl} {its:List It} {ps:List Pm} {a:Nat} {w p n':Int} (h:PsI l all b (PsQ l Q vs its) ps a w p n') (hc:w=0→∃ m,all[a]? = some m∧isW m sClose=true):AM Tryz.prog G 78 [.ptr 0 0,sv sClose] (rdr all l a w p n')
  (fun x cs=>x=.tup []∧∃ (a1:Nat) (w p n':Int),cs=rdr all l a1 w p n'∧Sq l all b 0 Q (vs++[.ps ps]) its a1 w p n'):=by
 have hlen:=hm.len
 have ha:=h.1
 refine AM.mono (rwant_ap all l a w p n' sClose (List.getElem?_eq_getElem ha) (by omega)) ?_
 rintro x cs ⟨rfl,rfl⟩
 refine ⟨rfl,?_⟩
 unfold wantS
 obtain ⟨ha,⟨rfl,rfl,rfl,hb,hl,h1⟩ | ⟨hw,hP⟩⟩:=h
 ·obtain ⟨m,h0,hq⟩:=hc rfl
  obtain ⟨_,rfl⟩:=List.getElem?_eq_some_iff.1 h0
  obtain ⟨hk0,hk2,hk4⟩:=isW_kind hq
  rw [if_pos rfl,if_pos hq]
  refine ⟨a + 1,0,0,0,rfl,hm.fin a _ h0 hk4,.inl ⟨rfl,rfl,rfl,by omega,fun r hr=>?_⟩⟩
  rw [pre_snoc]
  have:=h1 (.ok [.ps ps] (all.drop (a + 1))) (by rw [drop_at h0]; exact .pStop _ _ hq)
  exact this r hr
 ·rw [if_neg hw]
  exact ⟨a,w,p,n',rfl,ha,.inr ⟨hw,hP⟩⟩
theorem PrI.end {ps:List Pm} {x:M} {t:Int} {a0 a:Nat} {w p n':Int} (h:Sq l all a0 0 (PmQ l Q ps) [.nm x,.ty t] [] a w p n') (hb:b < a0) (hp:ps.length≤a0):PsI l all b Q (ps++[⟨x.text,t,x.pos⟩]) a w p n'∧(w=0→a0 < a):=by
 rcases h.end with ⟨h1,h2,h3,h4,h5,h6⟩ | ⟨h1,h2,h3⟩
 ·exact ⟨⟨h5,.inl ⟨h1,h2,h3,by omega,by simp; omega,fun r hr=>h6 r hr⟩⟩,fun _=>h4⟩
 ·exact ⟨⟨h2,.inr ⟨h1,h3⟩⟩,fun h=>absurd h h1⟩
end
end Go.Proofs.YtgddkgbidhhheaaGreatDoor
set_option linter.unusedVariables false
set_option linter.unusedSimpArgs false
set_option maxRecDepth 100000
namespace Go.Proofs.YtgddkgbidhhheaaGreatDoor
open Go.RowKit Flo Ab Mk Pg
section
variable {G:World→Prop} {all:List M} {l:Lim} {b:Nat} {n:Int} {Q:Res→Prop}
theorem pmsA_len (ps:List Pm):(pmsA ps).length=ps.length * 3:=by
 unfold pmsA
 induction ps with
 | nil=>rfl
 | cons v vs ih=>rw [List.flatMap_cons,List.length_append,ih]; simp; omega
def psR (ps:List Pm) (H:List Ob) (X:AV):Prop:=(ps=[]∧X=.v (.slice none 0 0))∨∃ r,3 < r∧X=.row r∧ps≠[]∧H[r]? = some (.own 69 3 ps.length (pmsA ps))
def fCells (m:M) (X:AV):List AV:=[sv m.text,X,iv 0,iv 0,sv [],sv [],iv 0,cv 0 0,.v (.slice none 0 0),iv 0,iv m.pos]
def DefI (l:Lim) (all:List M) (b:Nat) (Q:Res→Prop) (m:M) (g:Nat) (F:Fr) (H:List Ob):Prop:=
 ∃ (ps:List Pm) (a:Nat) (w p n':Int) (X:AV),PsI l all b Q ps a w p n'∧((w=0∧g=all.length - a)∨(w≠0∧g=0))∧F 0=some (.ptr 0 0)∧F 4=some (.ptr 1 0)∧F 6=some (.ptr 3 0)∧H[0]? = some (.var (rdr all l a w p n')) ∧
  H[1]? = some (.var [sv [],.v (.slice none 0 0),iv 0,iv 0,sv [],sv [],iv 0,cv 0 0,.v (.slice none 0 0),iv 0,iv 0])∧H[3]? = some (.var (fCells m X))∧psR ps H X
def DefOut (l:Lim) (all:List M) (b:Nat) (k:Int) (x:AV) (cs:List AV):Prop:=
 (∃ (vs:List Vl) (f:Pg.Fd) (a':Nat),P l (.seq 0 (defIts l k) (all.drop b)) (.ok vs (all.drop a'))∧defEx vs=some f∧x=.agg (fdA f)∧b < a'∧a' < all.length∧cs=rdr all l a' 0 0 0)∨(∃ (w p:Int) (f:Pg.Fd) (a':Nat) (n':Int),P l (.seq 0 (defIts l k) (all.drop b)) (.bad w p)∧w≠0∧x=.agg (fdA f)∧a' < all.length∧cs=rdr all l a' w p n')
noncomputable def defA:ACode:=match c_pdef with | .seq a _=>a | x=>x
noncomputable def defB:ACode:=match c_pdef with | .seq _ (.seq b _)=>b | x=>x
noncomputable def defRest:ACode:=match c_pdef with | .seq _ (.seq _ r)=>r | x=>x
theorem pdef_split:c_pdef=.seq defA (.seq defB defRest):=rfl
noncomputable def dlA:ACode:=match c_pdef_L0 with | .seq a _=>a | x=>x
noncomputable def dlB:ACode:=match c_pdef_L0 with | .seq _ (.block _ (.seq b _))=>b | x=>x
noncomputable def dlC:ACode:=match c_pdef_L0 with | .seq _ (.block _ (.seq _ (.seq c _)))=>c | x=>x
noncomputable def dlRest:ACode:=match c_pdef_L0 with | .seq _ (.block _ (.seq _ (.seq _ r)))=>r | x=>x
theorem pdefL_split:c_pdef_L0=.seq dlA (.block 1 (.seq dlB (.seq dlC dlRest))):=rfl
theorem pmsA_snoc (ps:List Pm) (p:Pm):pmsA (ps++[p])=pmsA ps++[sv p.name,iv p.ty,iv p.pos]:=by unfold pmsA; rw [List.flatMap_append]; simp
theorem dl_rest (hm:Mks all) {m:M} {ps:List Pm} {a0 a:Nat} {w p n':Int} {X':AV} {F:Fr} {H:List Ob} {K:Exit→Fr→List Ob→Prop} (g:Nat)
  (hN:AM Tryz.prog G 77 [.ptr 0 0] (rdr all l a w p n') (fun x cs=>∃ m:M,x=.agg (mcells m)∧∃ (a:Nat) (w p n':Int),cs=rdr all l a w p n'∧Sq l all a0 0 (PmQ l Q ps) ([]++[.nm m]) [.ty] a w p n'))
  (hb:b < a0) (hp:ps.length≤a0) (ha0:a0 < all.length) (hg:all.length - a0≤g∧0 < g) (f0:F 0=some (.ptr 0 0)) (f4:F 4=some (.ptr 1 0)) (f6:F 6=some (.ptr 3 0)) (hH0:H[0]? = some (.var (rdr all l a w p n')))
  (hH1:H[1]? = some (.var [sv [],.v (.slice none 0 0),iv 0,iv 0,sv [],sv [],iv 0,cv 0 0,.v (.slice none 0 0),iv 0,iv 0])) (hH3:H[3]? = some (.var (fCells m X'))) (hR:psR ps H X')
  (hK:∀ F' H',(∃ g',g' < g∧DefI l all b Q m g' F' H')→K .normal F' H'):aw Tryz.prog G 103 dlRest K F H:=by
 have hlen:=hm.len
 have hl0:0 < H.length:=(List.getElem?_eq_some_iff.1 hH0).1
 have hl3:3 < H.length:=(List.getElem?_eq_some_iff.1 hH3).1
 unfold fCells at hH3
 simp -implicitDefEqProofs [dlRest,c_pdef_L0,f0]
 refine SC.rd (by simp) [.ptr 0 0] (by simp) (all:=all) (l:=l) (a:=a) (why:=w) (wh:=p) (n:=n') (by simp -implicitDefEqProofs [hH0]) (hN) (by simp [toO]) ⟨0,by simp⟩ (by simp [lentO]) ?_ (tg:=.mk)
 rintro x cs - ⟨mx,rfl,a1,w1,p1,n1,rfl,hS1⟩
 simp -implicitDefEqProofs [mcells,wrOb,splice,f0]
 refine SC.rd (by simp) [.ptr 0 0] (by simp) (all:=all) (l:=l) (a:=a1) (why:=w1) (wh:=p1) (n:=n1) (by simp -implicitDefEqProofs [hl0]) (typ_sq hm hS1) (by simp [toO]) ⟨0,by simp⟩ (by simp [lentO]) ?_ (tg:=.mk)
 rintro x cs - ⟨t,rfl,a2,w2,p2,n2,rfl,hS2⟩
 obtain ⟨hP2,hlt2⟩:=PrI.end (by simpa using hS2) hb hp
 have gb:∀ (X:List Ob) (o:Ob),((H.set 0 o)++X)[0]? = some o:=fun X o=>by rw [List.getElem?_append_left (by simpa using hl0),List.getElem?_set_self hl0]
 have fin:∀ g',g'=(if w2=0 then all.length - a2 else 0)→g' < g∧((w2=0∧g'=all.length - a2)∨(w2≠0∧g'=0)):=fun g' hg'=>by
  subst hg'
  by_cases hw:w2=0
  ·rw [if_pos hw]; have:=hlt2 hw; exact ⟨by omega,.inl ⟨hw,rfl⟩⟩
  ·rw [if_neg hw]; exact ⟨by omega,.inr ⟨hw,rfl⟩⟩
 have hss:∀ (X:List Ob) (o o':Ob),(H.set 0 o++X).set 0 o'=H.set 0 o'++X:=fun X o o'=>by rw [List.set_append_left _ _ (by simpa using hl0),List.set_set]
 have h3X:∀ (X:List Ob) (o:Ob),(H.set 0 o++X)[3]? = some (.var [sv m.text,X',iv 0,iv 0,sv [],sv [],iv 0,cv 0 0,.v (.slice none 0 0),iv 0,iv m.pos]):=fun X o=>by
  rw [List.getElem?_append_left (by simpa using hl3),List.getElem?_set_ne (by omega)]; exact hH3
 have h0X:∀ (X:List Ob) (o:Ob),(H.set 0 o++X)[0]? = some o:=gb
 have h1X:∀ (X:List Ob) (o:Ob),(H.set 0 o++X)[1]? = some (.var [sv [],.v (.slice none 0 0),iv 0,iv 0,sv [],sv [],iv 0,cv 0 0,.v (.slice none 0 0),iv 0,iv 0]):=fun X o=>by
  rw [List.getElem?_append_left (by simp; omega),List.getElem?_set_ne (by omega)]; exact hH1
 rcases hR with ⟨rfl,rfl⟩ | ⟨r,hr3,rfl,hne,hr⟩
 ·simp -implicitDefEqProofs [wrOb,splice,f0,f6,hss,h3X,evP,fillA,-getElem?_pos,List.getElem?_cons_zero,List.getElem?_cons_succ]
  refine hK _ _ ⟨_,(fin _ rfl).1,[⟨mx.text,t,mx.pos⟩],a2,w2,p2,n2,.row (H.length + 2),hP2,(fin _ rfl).2,by simp [f0],by simp [f4],by simp [f6],?_,?_,?_,.inr ⟨H.length + 2,by omega,rfl,by simp,?_⟩⟩
  ·rw [List.getElem?_set_ne (by omega)]; exact gb _ _
  ·rw [List.getElem?_set_ne (by omega)]; exact h1X _ _
  ·rw [List.getElem?_set_self (by simp; omega)]; rfl
  ·rw [List.getElem?_set_ne (by omega),List.getElem?_append_right (by simp)]; simp [pmsA]
 ·have hrl:r < H.length:=(List.getElem?_eq_some_iff.1 hr).1
  have hrX:∀ (X:List Ob) (o:Ob),(H.set 0 o++X)[r]? = some (.own 69 3 ps.length (pmsA ps)):=fun X o=>by
   rw [List.getElem?_append_left (by simpa using hrl),List.getElem?_set_ne (by omega)]; exact hr
  have h3Y:∀ (X Y:List Ob) (o:Ob),((H.set 0 o++X).set r .gone++Y)[3]? = some (.var [sv m.text,.row r,iv 0,iv 0,sv [],sv [],iv 0,cv 0 0,.v (.slice none 0 0),iv 0,iv m.pos]):=fun X Y o=>by
   rw [List.getElem?_append_left (by simp; omega),List.getElem?_set_ne (by omega)]; exact h3X X o
  have hb1:(ps.length + 1) * 32≤140737488355328:=by omega
  have hb2:ps.length + 1≤1073741824:=by omega
  have hb3:ps.length≤1073741823:=by omega
  simp -implicitDefEqProofs [wrOb,splice,f0,f6,hss,h3X,hrX,h3Y,hb1,hb2,hb3,evP,fillA,-getElem?_pos,List.getElem?_cons_zero,List.getElem?_cons_succ]
  refine hK _ _ ⟨_,(fin _ rfl).1,ps++[⟨mx.text,t,mx.pos⟩],a2,w2,p2,n2,.row (H.length + 2),hP2,(fin _ rfl).2,by simp [f0],by simp [f4],by simp [f6],?_,?_,?_,.inr ⟨H.length + 2,by omega,rfl,by simp,?_⟩⟩
  ·rw [List.getElem?_set_ne (by omega),List.getElem?_append_left (by simp),List.getElem?_set_ne (by omega)]; exact gb _ _
  ·rw [List.getElem?_set_ne (by omega),List.getElem?_append_left (by simp),List.getElem?_set_ne (by omega)]; exact h1X _ _
  ·rw [List.getElem?_set_self (by simp; omega)]; rfl
  ·rw [List.getElem?_set_ne (by omega),List.getElem?_append_right (by simp)]; simp [pmsA_snoc]
theorem dl_mid (hm:Mks all) {m:M} {ps:List Pm} {a0 a:Nat} {w p n':Int} {X':AV} {F:Fr} {H:List Ob} {K:Exit→Fr→List Ob→Prop} (g:Nat) (hP:PrI l all b Q ps a w p n') (hle:w=0→a0≤a)
  (hb:b < a0) (hp:ps.length≤a0) (ha0:a0 < all.length) (hg:all.length - a0≤g∧0 < g) (f0:F 0=some (.ptr 0 0)) (f4:F 4=some (.ptr 1 0)) (f6:F 6=some (.ptr 3 0)) (hH0:H[0]? = some (.var (rdr all l a w p n')))
  (hH1:H[1]? = some (.var [sv [],.v (.slice none 0 0),iv 0,iv 0,sv [],sv [],iv 0,cv 0 0,.v (.slice none 0 0),iv 0,iv 0])) (hH3:H[3]? = some (.var (fCells m X'))) (hR:psR ps H X')
  (hK:∀ F' H',(∃ g',g' < g∧DefI l all b Q m g' F' H')→K .normal F' H'):aw Tryz.prog G 103 dlC (thenA (aw Tryz.prog G 103 dlRest K) K) F H:=by
 have hlen:=hm.len
 have ha:=hP.1
 obtain ⟨m2,h1⟩:∃ m,all[a]? = some m:=⟨_,List.getElem?_eq_getElem ha⟩
 by_cases hw:w=0
 ·subst hw
  have hr0:(rdr all l a 0 p n')[2]? = some (iv 0):=rfl
  have hr1:(rdr all l a 0 p n')[6]? = some (iv l.arity):=rfl
  have hle:=hle rfl
  obtain ⟨_,⟨_,rfl,rfl,hb1,hl1,hQ⟩ | ⟨hw,_⟩⟩:=hP
  ·simp -implicitDefEqProofs [dlC,c_pdef_L0,f0,hH0,hr0]
   refine DC.go [.ptr 0 0] (.agg (mcells m2)) (by simp) (by simpa [hH0,rdr_deep] using rnext_ep a 0 0 0 h1) (by simp [hH0,rdr_deep]) (by simp [mcells]) ?_ (a:=.mk)
   by_cases k0:m2.kind=0
   ·have k0':(m2.kind:Int)=0:=by omega
    by_cases hbig:l.arity≤(ps.length:Int)
    ·have hl0:0 < H.length:=(List.getElem?_eq_some_iff.1 hH0).1
     have hf0:(frzT H [.ptr 0 0,iv 22]).1=H:=by simp
     have s0:∀ o:Ob,(H.set 0 o)[0]? = some o:=fun o=>by rw [List.getElem?_set_self hl0]
     have hbad:=name_sq (G:=G) hm (cn_big (b:=a0) (n':=0) (Q:=PmQ l Q ps) (vs:=[]) (its:=[.ty]) h1 k0 hbig hQ [] [.nm,.ty])
     have hfail:=rfail_ap (G:=G) all l a 0 0 0 22 h1
     rw [if_pos rfl] at hfail
     unfold fCells at hH3
     rcases hR with ⟨rfl,rfl⟩ | ⟨r,hr3,rfl,hne,hr⟩
     ·have hbig':l.arity≤0:=by simpa using hbig
      simp -implicitDefEqProofs [mcells,k0',f0,f6,hH0,hH3,hr1,hbig']
      refine SC.rd (by simp) [.ptr 0 0,iv 22] (by simp) (all:=all) (l:=l) (a:=a) (why:=0) (wh:=0) (n:=0) (by simp -implicitDefEqProofs [hH0]) (hfail) (by simp [toO]) ⟨0,by simp⟩ (by simp [lentO]) ?_ (tg:=.mk)
      rintro x cs - ⟨rfl,rfl⟩
      rw [hf0]
      simp -implicitDefEqProofs
      exact dl_rest hm g hbad hb hp ha0 hg (by simp [f0]) (by simp [f4]) (by simp [f6]) (s0 _) (by rw [List.getElem?_set_ne (by omega)]; exact hH1) (by rw [List.getElem?_set_ne (by omega)]; exact hH3) (.inl ⟨rfl,rfl⟩) hK
     ·simp -implicitDefEqProofs [mcells,k0',f0,f6,hH0,hH3,hr,hr1,hbig]
      refine SC.rd (by simp) [.ptr 0 0,iv 22] (by simp) (all:=all) (l:=l) (a:=a) (why:=0) (wh:=0) (n:=0) (by simp -implicitDefEqProofs [hH0]) (hfail) (by simp [toO]) ⟨0,by simp⟩ (by simp [lentO]) ?_ (tg:=.mk)
      rintro x cs - ⟨rfl,rfl⟩
      rw [hf0]
      simp -implicitDefEqProofs
      exact dl_rest hm g hbad hb hp ha0 hg (by simp [f0]) (by simp [f4]) (by simp [f6]) (s0 _) (by rw [List.getElem?_set_ne (by omega)]; exact hH1) (by rw [List.getElem?_set_ne (by omega)]; exact hH3) (.inr ⟨r,hr3,rfl,hne,by rw [List.getElem?_set_ne (by omega)]; exact hr⟩) hK
    ·have hgood:=cn_good (G:=G) hm h1 (vs:=[]) (its:=[.ty]) (Q:=PmQ l Q ps) (k:=ps.length) (most:=l.arity) (fun _=>by omega) hle hQ
     unfold fCells at hH3
     rcases hR with ⟨rfl,rfl⟩ | ⟨r,hr3,rfl,hne,hr⟩
     ·have hbig':¬ l.arity≤0:=by simpa using hbig
      have hbig'':0 < l.arity:=by omega
      simp -implicitDefEqProofs [mcells,k0',f0,f6,hH0,hH3,hr1,hbig',hbig'']
      exact dl_rest hm g hgood hb hp ha0 hg (by simp [f0]) (by simp [f4]) (by simp [f6]) hH0 hH1 hH3 (.inl ⟨rfl,rfl⟩) hK
     ·have hbig'':(ps.length:Int) < l.arity:=by omega
      simp -implicitDefEqProofs [mcells,k0',f0,f6,hH0,hH3,hr,hr1,hbig,hbig'']
      exact dl_rest hm g hgood hb hp ha0 hg (by simp [f0]) (by simp [f4]) (by simp [f6]) hH0 hH1 hH3 (.inr ⟨r,hr3,rfl,hne,hr⟩) hK
   ·have k0':¬ (m2.kind:Int)=0:=by omega
    simp -implicitDefEqProofs [mcells,k0,k0']
    exact dl_rest hm g (cn_good hm h1 (fun h=>absurd h k0) hle hQ) hb hp ha0 hg (by simp [f0]) (by simp [f4]) (by simp [f6]) hH0 hH1 hH3 hR hK
  ·exact absurd rfl hw
 ·have hr0:(rdr all l a w p n')[2]? = some (iv w):=rfl
  obtain ⟨_,⟨hw',_⟩ | ⟨_,hQ⟩⟩:=hP
  ·exact absurd hw' hw
  ·simp -implicitDefEqProofs [dlC,c_pdef_L0,f0,hH0,hr0,hw]
   exact dl_rest hm g (name_sq hm ⟨ha,.inr ⟨hw,hQ⟩⟩) hb hp ha0 hg (by simp [f0]) (by simp [f4]) (by simp [f6]) hH0 hH1 hH3 hR hK
noncomputable def dEnd:ACode:=match c_pdef with | .seq _ (.seq _ (.seq _ (.seq _ (.seq _ (.seq _ r)))))=>r | x=>x
noncomputable def dN1:ACode:=match c_pdef with | .seq _ (.seq _ (.seq x _))=>x | x=>x
noncomputable def dN2:ACode:=match c_pdef with | .seq _ (.seq _ (.seq _ (.seq x _)))=>x | x=>x
noncomputable def dN3:ACode:=match c_pdef with | .seq _ (.seq _ (.seq _ (.seq _ (.seq x _))))=>x | x=>x
theorem defRest_is:defRest=.seq dN1 (.seq dN2 (.seq dN3 (.seq (.block 0 (.loop c_pdef_L0)) dEnd))):=rfl
theorem d_end (hm:Mks all) {m:M} {k:Int} {ps:List Pm} {a:Nat} {w p n':Int} {X:AV} {F:Fr} {H:List Ob}
  (hP:PsI l all b (PsQ l (P l (.seq 0 (defIts l k) (all.drop b))) [.nm m,.u] [.w sColon,.ty,.w sEq,.e,.w sSemi]) ps a w p n') (hc:w=0→∃ m,all[a]? = some m∧isW m sClose=true)
  (f0:F 0=some (.ptr 0 0)) (f4:F 4=some (.ptr 1 0)) (f6:F 6=some (.ptr 3 0)) (hH0:H[0]? = some (.var (rdr all l a w p n')))
  (hH1:H[1]? = some (.var [sv [],.v (.slice none 0 0),iv 0,iv 0,sv [],sv [],iv 0,cv 0 0,.v (.slice none 0 0),iv 0,iv 0])) (hH3:H[3]? = some (.var (fCells m X))) (hR:psR ps H X) :
  aw Tryz.prog G 103 dEnd (retQ [(.cell 4 true 11)] (finM (DefOut l all b k))) F H:=by
 have hlen:=hm.len
 have hX:HX G all l b:=HX_all hm
 have hl0:0 < H.length:=(List.getElem?_eq_some_iff.1 hH0).1
 have hl3:3 < H.length:=(List.getElem?_eq_some_iff.1 hH3).1
 unfold fCells at hH3
 have g0:∀ o:Ob,(H.set 0 o)[0]? = some o:=fun o=>by rw [List.getElem?_set_self hl0]
 have g3:∀ o:Ob,(H.set 0 o)[3]? = H[3]?:=fun o=>by rw [List.getElem?_set_ne (by omega)]
 have c30:∀ (o o' c:Ob),((H.set 0 o).set 3 c).set 0 o'=(H.set 0 o').set 3 c:=fun o o' c=>by rw [List.set_comm _ _ (by omega),List.set_set]
 have k0:∀ (o c:Ob),((H.set 0 o).set 3 c)[0]? = some o:=fun o c=>by rw [List.getElem?_set_ne (by omega)]; exact g0 o
 have k3:∀ (o c:Ob),((H.set 0 o).set 3 c)[3]? = some c:=fun o c=>by rw [List.getElem?_set_self (by simpa using hl3)]
 have k1:∀ (o c:Ob),((H.set 0 o).set 3 c)[1]? = H[1]?:=fun o c=>by rw [List.getElem?_set_ne (by omega),List.getElem?_set_ne (by omega)]
 simp -implicitDefEqProofs [dEnd,c_pdef,f0]
 refine SC.rd (by simp) [.ptr 0 0,sv sClose] (by simp) (all:=all) (l:=l) (a:=a) (why:=w) (wh:=p) (n:=n') (by simp -implicitDefEqProofs [hH0]) (pars_close hm hP hc) (by simp [toO]) ⟨0,by simp⟩ (by simp [lentO]) ?_ (tg:=.mk)
 rintro x cs - ⟨rfl,a1,w1,p1,n1,rfl,hS1⟩
 simp -implicitDefEqProofs [f0]
 refine SC.rd (by simp) [.ptr 0 0,sv sColon] (by simp) (all:=all) (l:=l) (a:=a1) (why:=w1) (wh:=p1) (n:=n1) (by simp -implicitDefEqProofs [g0]) (want_sq hm hS1) (by simp [toO]) ⟨0,by simp⟩ (by simp [lentO]) ?_ (tg:=.mk)
 rintro x cs - ⟨rfl,a2,w2,p2,n2,rfl,hS2⟩
 simp -implicitDefEqProofs [f0]
 refine SC.rd (by simp) [.ptr 0 0] (by simp) (all:=all) (l:=l) (a:=a2) (why:=w2) (wh:=p2) (n:=n2) (by simp -implicitDefEqProofs [g0]) (typ_sq hm hS2) (by simp [toO]) ⟨0,by simp⟩ (by simp [lentO]) ?_ (tg:=.mk)
 rintro x cs - ⟨t,rfl,a3,w3,p3,n3,rfl,hS3⟩
 simp -implicitDefEqProofs [f0,f6,g3,hH3,wrOb,splice]
 refine SC.rd (by simp) [.ptr 0 0,sv sEq] (by simp) (all:=all) (l:=l) (a:=a3) (why:=w3) (wh:=p3) (n:=n3) (by simp -implicitDefEqProofs [k0]) (want_sq hm hS3) (by simp [toO]) ⟨0,by simp⟩ (by simp [lentO]) ?_ (tg:=.mk)
 rintro x cs - ⟨rfl,a4,w4,p4,n4,rfl,hS4⟩
 simp -implicitDefEqProofs [f0,c30]
 refine SC.rd (by simp) [.ptr 0 0] (by simp) (all:=all) (l:=l) (a:=a4) (why:=w4) (wh:=p4) (n:=n4) (by simp -implicitDefEqProofs [k0]) (expr_sq hm hX (by omega) hS4) (by simp [toO]) ⟨0,by simp⟩ (by simp [lentO]) ?_ (tg:=.mk)
 rintro x cs - ⟨e,rfl,a5,w5,p5,n5,rfl,hS5⟩
 obtain ⟨o,nm,tl,ty,num,args,pos⟩:=e
 simp -implicitDefEqProofs [exA,Ex.cells,f0,f6,c30,k3,wrOb,splice]
 refine SC.rd (by simp) [.ptr 0 0,sv sSemi] (by simp) (all:=all) (l:=l) (a:=a5) (why:=w5) (wh:=p5) (n:=n5) (by simp -implicitDefEqProofs [k0]) (want_sq hm hS5) (by simp [toO]) ⟨0,by simp⟩ (by simp [lentO]) ?_ (tg:=.mk)
 rintro x cs - ⟨rfl,a6,w6,p6,n6,rfl,hS6⟩
 have hfin:DefOut l all b k (.agg (fdA ⟨m.text,ps,t,.mk o nm tl ty num args pos,m.pos⟩)) (rdr all l a6 w6 p6 n6):=by
  rcases hS6.end with ⟨rfl,rfl,rfl,hb2,hl2,hP⟩ | ⟨hw2,hl2,hP⟩
  ·exact .inl ⟨_,⟨m.text,ps,t,.mk o nm tl ty num args pos,m.pos⟩,a6,hP,rfl,rfl,hb2,hl2,rfl⟩
  ·exact .inr ⟨w6,p6,_,a6,n6,hP,hw2,rfl,hl2,rfl⟩
 simp only [fdA,Ex.cells] at hfin
 have q1:∀ (o c d:Ob),(((H.set 0 o).set 3 c).set 1 d)[1]? = some d:=fun o c d=>by rw [List.getElem?_set_self (by simp; omega)]
 have q0:∀ (o c d:Ob),(((H.set 0 o).set 3 c).set 1 d)[0]? = some o:=fun o c d=>by rw [List.getElem?_set_ne (by omega)]; exact k0 o c
 rcases hR with ⟨rfl,rfl⟩ | ⟨r,hr3,rfl,hne,hr⟩
 ·simp -implicitDefEqProofs [f4,f6,c30,k3,k1,hH1,q1,q0,wrOb,splice,finM,rdr_deep]
  exact ⟨by simp [rdr],by simpa [pmsA] using hfin⟩
 ·have qr:∀ (o c d:Ob),(((H.set 0 o).set 3 c).set 1 d)[r]? = some (.own 69 3 ps.length (pmsA ps)):=fun o c d=>by rw [List.getElem?_set_ne (by omega),List.getElem?_set_ne (by omega),List.getElem?_set_ne (by omega)]; exact hr
  have qr0:∀ (o c d e:Ob),((((H.set 0 o).set 3 c).set 1 d).set r e)[0]? = some o:=fun o c d e=>by rw [List.getElem?_set_ne (by omega)]; exact q0 o c d
  simp -implicitDefEqProofs [f4,f6,c30,k3,k1,hH1,q1,q0,qr,qr0,wrOb,splice,finM,rdr_deep]
  exact ⟨by simp [rdr],by simpa using hfin⟩
theorem def_ok (hm:Mks all) (hb:b < all.length) (k:Nat) (hk:k≤40000):AM Tryz.prog G 49 [.ptr 0 0,iv k] (rdr all l b 0 0 0) (DefOut l all b k):=by
 have hlen:=hm.len
 have hX:HX G all l b:=HX_all hm
 obtain ⟨m,h0⟩:∃ m,all[b]? = some m:=⟨_,List.getElem?_eq_getElem hb⟩
 have hfail:=rfail_ap (G:=G) all l b 0 0 0 22 h0
 have hQ0:∀ r,P l (.seq 0 (.cn k l.funcs :: [.w sOpen,.ps,.w sColon,.ty,.w sEq,.e,.w sSemi]) (all.drop b)) r→P l (.seq 0 (defIts l k) (all.drop b)) (Res.pre [] r):=fun r hr=>hr
 have rest:∀ (F:Fr) (H:List Ob) (a:Nat) (w p n':Int),F 0=some (.ptr 0 0)→F 4=some (.ptr 1 0)→H=[.var (rdr all l a w p n'),.var [sv [],.v (.slice none 0 0),iv 0,iv 0,sv [],sv [],iv 0,cv 0 0,.v (.slice none 0 0),iv 0,iv 0]] →
   AM Tryz.prog G 77 [.ptr 0 0] (rdr all l a w p n') (fun x cs=>∃ m:M,x=.agg (mcells m)∧∃ (a:Nat) (w p n':Int),cs=rdr all l a w p n'∧Sq l all b 0 (P l (.seq 0 (defIts l k) (all.drop b))) ([]++[.nm m]) [.w sOpen,.ps,.w sColon,.ty,.w sEq,.e,.w sSemi] a w p n') →
   aw Tryz.prog G 103 defRest (retQ [(.cell 4 true 11)] (finM (DefOut l all b k))) F H:=by
  rintro F H a w p n' f0 f4 rfl hN
  rw [defRest_is]
  simp -implicitDefEqProofs [dN1,c_pdef,f0]
  refine SC.rd (by simp) [.ptr 0 0] (by simp) (all:=all) (l:=l) (a:=a) (why:=w) (wh:=p) (n:=n') (by simp) (hN) (by simp [toO]) ⟨0,by simp⟩ (by simp [lentO]) ?_ (tg:=.mk)
  rintro x cs - ⟨mx,rfl,a1,w1,p1,n1,rfl,hS1⟩
  simp -implicitDefEqProofs [dN2,dN3,c_pdef,mcells,wrOb,splice,f0,evP,fillA]
  refine SC.rd (by simp) [.ptr 0 0,sv sOpen] (by simp) (all:=all) (l:=l) (a:=a1) (why:=w1) (wh:=p1) (n:=n1) (by simp) (want_sq hm hS1) (by simp [toO]) ⟨0,by simp⟩ (by simp [lentO]) ?_ (tg:=.mk)
  rintro x cs - ⟨rfl,a2,w2,p2,n2,rfl,hS2⟩
  have hP2:=hS2.new_ps
  simp -implicitDefEqProofs [f0]
  refine LP.go (DefI l all b (PsQ l (P l (.seq 0 (defIts l k) (all.drop b))) [.nm mx,.u] [.w sColon,.ty,.w sEq,.e,.w sSemi]) mx) (if w2=0 then all.length - a2 else 0) ⟨[],a2,w2,p2,n2,.v (.slice none 0 0),hP2,?_,by simp [f0],by simp [f4],by simp,by simp,by simp,by simp [fCells],.inl ⟨rfl,rfl⟩⟩ ?_
  ·by_cases hw1:w2=0
   ·exact .inl ⟨hw1,by rw [if_pos hw1]⟩
   ·exact .inr ⟨hw1,by rw [if_neg hw1]⟩
  clear hP2 hS1 hS2 hN f0 f4
  rw [pdefL_split]
  rintro g F H ⟨ps,a,w,p,n',X,hP,hg,f0,f4,f6,hH0,hH1,hH3,hR⟩
  have ha:=hP.1
  obtain ⟨m2,h1⟩:∃ m,all[a]? = some m:=⟨_,List.getElem?_eq_getElem ha⟩
  by_cases hw:w=0
  ·subst hw
   have his:=ris_ap (G:=G) all l a 0 p n' sClose h1
   obtain ⟨q',hq'⟩:∃ q,isW m2 sClose=q:=⟨_,rfl⟩
   rw [hq'] at his
   have hr0:(rdr all l a 0 p n')[2]? = some (iv 0):=rfl
   have hf0:(frzT H [.ptr 0 0,sv sClose]).1=H:=by simp
   simp -implicitDefEqProofs [dlA,c_pdef_L0,f0,hH0,hr0]
   refine SC.rd (by simp) [.ptr 0 0,sv sClose] (by simp) (all:=all) (l:=l) (a:=a) (why:=0) (wh:=p) (n:=n') (by simp -implicitDefEqProofs [hH0]) (his) (by simp [toO]) ⟨0,by simp⟩ (by simp [lentO]) ?_ (tg:=.mk)
   rintro x cs - ⟨rfl,rfl⟩
   rw [hf0,set_same hH0]
   cases q'
   ·have gsplit:PsI l all b (PsQ l (P l (.seq 0 (defIts l k) (all.drop b))) [.nm mx,.u] [.w sColon,.ty,.w sEq,.e,.w sSemi]) ps a 0 p n':=hP
    obtain ⟨q,hqq⟩:∃ Q':Res→Prop,PsQ l (P l (.seq 0 (defIts l k) (all.drop b))) [.nm mx,.u] [.w sColon,.ty,.w sEq,.e,.w sSemi]=Q':=⟨_,rfl⟩
    rw [hqq] at hP
    have hg':g=all.length - a:=by
     rcases hg with ⟨_,hg⟩ | ⟨h,_⟩
     ·exact hg
     ·exact absurd rfl h
    obtain ⟨_,⟨_,rfl,rfl,hb1,hl1,_⟩ | ⟨hw,_⟩⟩:=id hP
    ·have hl0:0 < H.length:=(List.getElem?_eq_some_iff.1 hH0).1
     simp -implicitDefEqProofs [hqq]
     rcases hR with ⟨rfl,rfl⟩ | ⟨r,hr3,rfl,hne,hr⟩
     ·have hH3':=hH3
      unfold fCells at hH3'
      simp -implicitDefEqProofs [dlB,c_pdef_L0,f6,hH3']
      exact dl_mid hm g (PrI.zero hP h1 hq') (fun _=>Nat.le_refl _) hb1 (by simp) ha (by omega) (by simp [f0]) (by simp [f4]) (by simp [f6]) hH0 hH1 hH3 (.inl ⟨rfl,rfl⟩) (fun F' H' h=>by simp only [inBlockA,thenA_normal]; exact h)
     ·have hul:0 < ps.length:=List.length_pos_iff.2 hne
      have hH3':=hH3
      unfold fCells at hH3'
      simp -implicitDefEqProofs [dlB,c_pdef_L0,f0,f6,hH3',hr,hul]
      refine SC.rd (by simp) [.ptr 0 0,sv sComma] (by simp) (all:=all) (l:=l) (a:=a) (why:=0) (wh:=0) (n:=0) (by simp -implicitDefEqProofs [hH0]) (pars_comma hm hP hne h1 hq') (by simp [toO]) ⟨0,by simp⟩ (by simp [lentO]) ?_ (tg:=.mk)
      rintro x cs - ⟨rfl,a3,w3,p3,n3,rfl,hP3,hlt⟩
      have hf1:(frzT H [.ptr 0 0,sv sComma]).1=H:=by simp
      rw [hf1]
      simp -implicitDefEqProofs
      exact dl_mid hm g hP3 (fun h=>by have:=hlt h; omega) hb1 hl1 ha (by omega) (by simp [f0]) (by simp [f4]) (by simp [f6]) (by rw [List.getElem?_set_self hl0]) (by rw [List.getElem?_set_ne (by omega)]; exact hH1) (by rw [List.getElem?_set_ne (by omega)]; exact hH3) (.inr ⟨r,hr3,rfl,hne,by rw [List.getElem?_set_ne (by omega)]; exact hr⟩) (fun F' H' h=>by simp only [inBlockA,thenA_normal]; exact h)
    ·exact absurd rfl hw
   ·simp -implicitDefEqProofs
    exact d_end hm hP (fun _=>⟨m2,h1,hq'⟩) (by simp [f0]) (by simp [f4]) (by simp [f6]) hH0 hH1 hH3 hR
  ·have hr0:(rdr all l a w p n')[2]? = some (iv w):=rfl
   simp -implicitDefEqProofs [dlA,c_pdef_L0,f0,hH0,hr0,hw]
   exact d_end hm hP (fun h=>absurd h hw) (by simp [f0]) (by simp [f4]) (by simp [f6]) hH0 hH1 hH3 hR
 refine AM.go hmix F_pdef (by simp) ?_
 rw [pdef_split]
 simp -implicitDefEqProofs [defA,defB,c_pdef]
 refine SC.rd (by simp) [.ptr 0 0] (by simp) (all:=all) (l:=l) (a:=b) (why:=0) (wh:=0) (n:=0) (by simp) (rnext_ap all l b 0 0 0 h0) (by simp [toO]) ⟨0,by simp⟩ (by simp [lentO]) ?_ (tg:=.mk)
 rintro x cs - ⟨rfl,rfl⟩
 by_cases k0:m.kind=0
 ·have k0':(m.kind:Int)=0:=by omega
  by_cases hbig:l.funcs≤(k:Int)
  ·rw [if_pos rfl] at hfail
   simp -implicitDefEqProofs [mcells,k0',hbig,rdr,wrOb,splice]
   refine SC.rd (by simp) [.ptr 0 0,iv 22] (by simp) (all:=all) (l:=l) (a:=b) (why:=0) (wh:=0) (n:=0) (by simp -implicitDefEqProofs [rdr]) (hfail) (by simp [toO]) ⟨0,by simp⟩ (by simp [lentO]) ?_ (tg:=.mk)
   rintro x cs - ⟨rfl,rfl⟩
   simp -implicitDefEqProofs
   exact rest _ _ b 22 m.pos 0 (by simp) (by simp) rfl (name_sq hm (cn_big (n':=0) h0 k0 hbig hQ0 [] (.nm :: [.w sOpen,.ps,.w sColon,.ty,.w sEq,.e,.w sSemi])))
  ·have hbig':(k:Int) < l.funcs:=by omega
   simp -implicitDefEqProofs [mcells,k0',hbig,rdr,wrOb,splice]
   exact rest _ _ b 0 0 0 (by simp) (by simp) rfl (cn_good hm h0 (fun _=>hbig') (Nat.le_refl _) hQ0)
 ·have k0':¬ (m.kind:Int)=0:=by omega
  simp -implicitDefEqProofs [mcells,k0,k0',rdr,wrOb,splice]
  exact rest _ _ b 0 0 0 (by simp) (by simp) rfl (cn_good hm h0 (fun h=>absurd h k0) (Nat.le_refl _) hQ0)
end
end Go.Proofs.YtgddkgbidhhheaaGreatDoor
