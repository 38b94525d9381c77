/- Texts joined: Prd Pre Lnd. -/
import Derived.Test.YtgddkgbidhhheaaGreatDoorKtat
import Derived.Test.YtgddkgbidhhheaaGreatDoorKtau
set_option linter.unusedVariables false
set_option linter.unusedSimpArgs false
set_option maxRecDepth 100000
namespace Go.Proofs.YtgddkgbidhhheaaGreatDoor
open Go.RowKit Flo Ab Mk Pg
section
variable {G:World→Prop} {all:List M} {l:Lim} {b:Nat} {n:Int}
theorem exsA_len (us:List Ex):(exsA us).length=us.length * 7:=by
 induction us with
 | nil=>rfl
 | cons e r ih=>obtain ⟨o,nm,tl,ty,num,args,pos⟩:=e; rw [exsA,List.length_append,ih]; simp [Ex.cells]; omega
theorem exsA_snoc (us:List Ex) (e:Ex):exsA (us++[e])=exsA us++e.cells:=by
 induction us with
 | nil=>simp [exsA]
 | cons u r ih=>rw [List.cons_append,exsA,ih,exsA,List.append_assoc]
theorem set_same {α:Type} {H:List α} {i:Nat} {o:α} (h:H[i]? = some o):H.set i o=H:=by
 apply List.ext_getElem?
 intro k
 by_cases hk:i=k
 ·subst hk
  rw [List.getElem?_set_self (List.getElem?_eq_some_iff.1 h).1,h]
 ·rw [List.getElem?_set_ne hk]
def AsI (l:Lim) (all:List M) (b:Nat) (n:Int) (ms0:List M) (us:List Ex) (a:Nat) (w p n':Int):Prop:=
 a < all.length∧((w=0∧p=0∧n'=n∧b < a∧us.length≤a∧∀ r,P l (.args n us (all.drop a)) r→P l (.args n [] ms0) r)∨(w≠0∧P l (.args n [] ms0) (.bad w p)))
def ArI (l:Lim) (all:List M) (b:Nat) (n:Int) (ms0:List M) (us:List Ex) (a:Nat) (w p n':Int):Prop:=
 a < all.length∧((w=0∧p=0∧n'=n∧b < a∧us.length≤a∧(∀ e ms' r,P l (.expr n (all.drop a)) (.ok [.e e] ms')→P l (.args n (us++[e]) ms') r→P l (.args n [] ms0) r)∧∀ w p,P l (.expr n (all.drop a)) (.bad w p)→P l (.args n [] ms0) (.bad w p))∨(w≠0∧P l (.args n [] ms0) (.bad w p)))
theorem args_expr (hm:Mks all) (hX:HX G all l b) (hn:0≤n∧n≤b + 1) {ms0:List M} {us:List Ex} {a:Nat} {w p n':Int} (h:ArI l all b n ms0 us a w p n'):AM Tryz.prog G 81 [.ptr 0 0] (rdr all l a w p n')
  (fun x cs=>∃ e:Ex,x=exA e∧∃ (a1:Nat) (w1 p1 n1:Int),cs=rdr all l a1 w1 p1 n1∧AsI l all b n ms0 (us++[e]) a1 w1 p1 n1∧(w1=0→w=0∧a < a1)):=by
 obtain ⟨ha,⟨rfl,rfl,rfl,hb,hl,h1,h2⟩ | ⟨hw,hP⟩⟩:=h
 ·refine AM.mono (hX a hb ha n' hn.1 (by omega)) ?_
  rintro x cs (⟨e,a',hP,rfl,ha1,ha2,rfl⟩ | ⟨w,p,e,a',n1,hP,hw,rfl,ha2,rfl⟩)
  ·exact ⟨_,rfl,a',0,0,_,rfl,⟨ha2,.inl ⟨rfl,rfl,rfl,by omega,by simp; omega,fun r hr=>h1 _ _ r hP hr⟩⟩,fun _=>⟨rfl,ha1⟩⟩
  ·exact ⟨_,rfl,a',w,p,n1,rfl,⟨ha2,.inr ⟨hw,h2 _ _ hP⟩⟩,fun h=>absurd h hw⟩
 ·refine AM.mono (expr_bad all l a w p n' ha hw) ?_
  rintro x cs ⟨e,rfl,rfl⟩
  exact ⟨_,rfl,a,w,p,n',rfl,⟨ha,.inr ⟨hw,hP⟩⟩,fun h=>absurd h hw⟩
theorem args_comma (hm:Mks all) {ms0:List M} {us:List Ex} {a:Nat} {p n':Int} (h:AsI l all b n ms0 us a 0 p n') (hu:us≠[]) {m:M} (h0:all[a]? = some m) (hc:isW m sClose=false):AM Tryz.prog G 78 [.ptr 0 0,sv sComma] (rdr all l a 0 p n')
  (fun x cs=>x=.tup []∧∃ (a1:Nat) (w p n':Int),cs=rdr all l a1 w p n'∧ArI l all b n ms0 us a1 w p n'∧(w=0→a < a1)):=by
 have hlen:=hm.len
 obtain ⟨ha,⟨_,rfl,rfl,hb,hl,h1⟩ | ⟨hw,hP⟩⟩:=h
 ·refine AM.mono (rwant_ap all l a 0 0 n' sComma h0 (by omega)) ?_
  rintro x cs ⟨rfl,rfl⟩
  refine ⟨rfl,?_⟩
  unfold wantS
  rw [if_pos rfl]
  cases hq:isW m sComma
  ·refine ⟨a,21,m.pos,n',by simp [hq],⟨ha,.inr ⟨by omega,h1 _ ?_⟩⟩,by omega⟩
   rw [drop_at h0]; exact .aSep _ _ hc hu hq
  ·obtain ⟨hk0,hk2,hk4⟩:=isW_kind hq
   refine ⟨a + 1,0,0,n',by simp [hq],⟨hm.fin a _ h0 hk4,.inl ⟨rfl,rfl,rfl,by omega,by omega,fun e ms' r he hr=>h1 r ?_,fun w p he=>h1 _ ?_⟩⟩,by omega⟩
   ·rw [drop_at h0]; exact .aNext hu hq he hr
   ·rw [drop_at h0]; exact .aBad hu hq he
 ·exact absurd rfl hw
theorem ArI.zero {ms0:List M} {a:Nat} {p n':Int} (h:AsI l all b n ms0 [] a 0 p n') {m:M} (h0:all[a]? = some m) (hc:isW m sClose=false):ArI l all b n ms0 [] a 0 p n':=by
 obtain ⟨ha,⟨_,rfl,rfl,hb,hl,h1⟩ | ⟨hw,hP⟩⟩:=h
 ·refine ⟨ha,.inl ⟨rfl,rfl,rfl,hb,hl,fun e ms' r he hr=>h1 r ?_,fun w p he=>h1 _ ?_⟩⟩
  ·rw [drop_at h0] at he ⊢; exact .aNext0 hc he hr
  ·rw [drop_at h0] at he ⊢; exact .aBad0 hc he
 ·exact absurd rfl hw
theorem args_close (hm:Mks all) {ms0:List M} {us:List Ex} {a:Nat} {w p n':Int} (h:AsI l all b n ms0 us a w p n') (hc:w=0→∃ m,all[a]? = some m∧isW m sClose=true):AM Tryz.prog G 78 [.ptr 0 0,sv sClose] (rdr all l a w p n')
  (fun x cs=>x=.tup []∧∃ (a1:Nat) (w p n':Int),cs=rdr all l a1 w p n'∧a1 < all.length∧((w=0∧p=0∧n'=n∧b < a1∧P l (.args n [] ms0) (.ok [.asx us] (all.drop a1)))∨(w≠0∧P l (.args n [] ms0) (.bad w p)))):=by
 have hlen:=hm.len
 have ha:=h.1
 refine AM.mono (rwant_ap all l a w p n' sClose (List.getElem?_eq_getElem ha) (by omega)) ?_
 rintro x cs ⟨rfl,rfl⟩
 refine ⟨rfl,?_⟩
 unfold wantS
 obtain ⟨ha,⟨rfl,rfl,rfl,hb,hl,h1⟩ | ⟨hw,hP⟩⟩:=h
 ·obtain ⟨m,h0,hq⟩:=hc rfl
  obtain ⟨_,rfl⟩:=List.getElem?_eq_some_iff.1 h0
  obtain ⟨hk0,hk2,hk4⟩:=isW_kind hq
  rw [if_pos rfl,if_pos hq]
  refine ⟨a + 1,0,0,n',rfl,hm.fin a _ h0 hk4,.inl ⟨rfl,rfl,rfl,by omega,h1 _ ?_⟩⟩
  rw [drop_at h0]; exact .aStop _ _ _ hq
 ·rw [if_neg hw]
  exact ⟨a,w,p,n',rfl,ha,.inr ⟨hw,hP⟩⟩
def argR (us:List Ex) (H:List Ob) (X:AV):Prop:=(us=[]∧X=.v (.slice none 0 0))∨∃ r,3 < r∧X=.row r∧us≠[]∧H[r]? = some (.own 55 7 us.length (exsA us))
def NamI (l:Lim) (all:List M) (b:Nat) (n:Int) (ms0:List M) (m:M) (g:Nat) (F:Fr) (H:List Ob):Prop:=
 ∃ (us:List Ex) (a:Nat) (w p n':Int) (X:AV),AsI l all b n ms0 us a w p n'∧((w=0∧g=all.length - a)∨(w≠0∧g=0))∧F 0=some (.ptr 0 0)∧F 4=some (.ptr 2 0)∧F 5=some (.ptr 3 0)∧H[0]? = some (.var (rdr all l a w p n')) ∧
  H[2]? = some (.var [iv 0,sv [],sv [],iv 0,cv 0 0,.v (.slice none 0 0),iv 0])∧H[3]? = some (.var [iv 7,sv m.text,sv [],iv 0,cv 0 0,X,iv m.pos])∧argR us H X
theorem named_ok (hm:Mks all) (hX:HX G all l b) (hn0:0≤n) (hn1:n≤b + 1) {m:M} (hk:m.kind=0) (hb:b + 1 < all.length) :
  AM Tryz.prog G 176 [.ptr 0 0,.agg (mcells m)] (rdr all l (b + 1) 0 0 n) (fun x cs=>Out (P l (.unit n (m :: all.drop (b + 1)))) all l b n x cs):=by
 have hlen:=hm.len
 have h0:all[b + 1]? = some all[b + 1]:=List.getElem?_eq_getElem hb
 obtain ⟨q,hq⟩:∃ q,isW all[b + 1] sOpen=q:=⟨_,rfl⟩
 have htake:=rtake_ap (G:=G) all l (b + 1) 0 0 n sOpen h0 (by omega)
 rw [hq] at htake
 refine AM.go hmix F_pnamed (by simp) ?_
 simp -implicitDefEqProofs [c_pnamed,mcells,wrOb,splice]
 refine SC.rd (by simp) [.ptr 0 0,sv sOpen] (by simp) (all:=all) (l:=l) (a:=b + 1) (why:=0) (wh:=0) (n:=n) (by simp) (htake) (by simp [toO]) ⟨0,by simp⟩ (by simp [lentO]) ?_ (tg:=.mk)
 rintro x cs - ⟨rfl,rfl⟩
 cases q
 ·simp -implicitDefEqProofs [wrOb,splice,evP,fillA,finM,rdr]
  refine .inl ⟨.mk 6 m.text [] 0 (0,0) [] m.pos,b + 1,?_,?_,by omega,hb,by simp [rdr]⟩
  ·rw [drop_at h0]; exact .var _ _ hk hq
  ·simp [exA,Ex.cells,exsA,W0]
 ·obtain ⟨hk0,hk2,hk4⟩:=isW_kind hq
  have hb2:=hm.fin _ _ h0 hk4
  simp -implicitDefEqProofs [wrOb,splice,evP,fillA]
  refine LP.go (NamI l all b n (all.drop (b + 1 + 1)) m) (all.length - (b + 1 + 1)) ⟨[],b + 1 + 1,0,0,n,.v (.slice none 0 0),⟨hb2,.inl ⟨rfl,rfl,rfl,by omega,by simp,fun r hr=>hr⟩⟩,.inl ⟨rfl,rfl⟩,by simp,by simp,by simp,by simp,by simp,by simp,.inl ⟨rfl,rfl⟩⟩ ?_
  unfold c_pnamed_L0
  rintro g F H ⟨us,a,w,p,n',X,hA,hg,f0,f4,f5,hH0,hH2,hH3,hR⟩
  have ha:=hA.1
  have h1:all[a]? = some all[a]:=List.getElem?_eq_getElem ha
  have hl0:0 < H.length:=(List.getElem?_eq_some_iff.1 hH0).1
  have hl3:3 < H.length:=(List.getElem?_eq_some_iff.1 hH3).1
  by_cases hw:w=0
  ·subst hw
   have his:=ris_ap (G:=G) all l a 0 p n' sClose h1
   obtain ⟨q',hq'⟩:∃ q,isW all[a] sClose=q:=⟨_,rfl⟩
   rw [hq'] at his
   have hr0:(rdr all l a 0 p n')[2]? = some (iv 0):=rfl
   simp -implicitDefEqProofs [f0,hH0,hr0]
   refine SC.rd (by simp) [.ptr 0 0,sv sClose] (by simp) (all:=all) (l:=l) (a:=a) (why:=0) (wh:=p) (n:=n') (by simp -implicitDefEqProofs [hH0]) (his) (by simp [toO]) ⟨0,by simp⟩ (by simp [lentO]) ?_ (tg:=.mk)
   rintro x cs - ⟨rfl,rfl⟩
   have hf0:(frzT H [.ptr 0 0,sv sClose]).1=H:=by simp
   rw [hf0,set_same hH0]
   cases q'
   ·rcases hR with ⟨rfl,rfl⟩ | ⟨r,hr3,rfl,hne,hr⟩
    ·simp -implicitDefEqProofs [f0,f5,hH3]
     refine SC.rd (by simp) [.ptr 0 0] (by simp) (all:=all) (l:=l) (a:=a) (why:=0) (wh:=p) (n:=n') (by simp -implicitDefEqProofs [hH0]) (args_expr hm hX ⟨hn0,hn1⟩ (ArI.zero hA h1 hq')) (by simp [toO]) ⟨0,by simp⟩ (by simp [lentO]) ?_ (tg:=.mk)
     rintro x cs - ⟨e,rfl,a1,w1,p1,n1,rfl,hA1,hlt⟩
     obtain ⟨o,nm,tl,ty,num,args,pos⟩:=e
     have h3X:∀ (o:Ob) (X:List Ob),(H.set 0 o++X)[3]? = some (.var [iv 7,sv m.text,sv [],iv 0,cv 0 0,.v (.slice none 0 0),iv m.pos]):=fun o X=>by
      rw [List.getElem?_append_left (by simpa using hl3),List.getElem?_set_ne (by omega)]; exact hH3
     simp -implicitDefEqProofs [exA,Ex.cells,wrOb,splice,f0,f5,h3X,evP,fillA]
     refine ⟨if w1=0 then all.length - a1 else 0,?_,[.mk o nm tl ty num args pos],a1,w1,p1,n1,.row (H.length + 2),hA1,?_,by simp [f0],by simp [f4],by simp [f5],?_,?_,?_,.inr ⟨H.length + 2,by omega,rfl,by simp,?_⟩⟩
     ·rcases hg with ⟨_,hg⟩ | ⟨h,_⟩
      ·split
       ·rename_i hw1; have:=(hlt hw1).2; omega
       ·omega
      ·exact absurd rfl h
     ·by_cases hw1:w1=0
      ·exact .inl ⟨hw1,by rw [if_pos hw1]⟩
      ·exact .inr ⟨hw1,by rw [if_neg hw1]⟩
     ·rw [List.getElem?_set_ne (by omega),List.getElem?_append_left (by simpa using hl0),List.getElem?_set_self hl0]
     ·rw [List.getElem?_set_ne (by omega),List.getElem?_append_left (by simp; omega),List.getElem?_set_ne (by omega)]; exact hH2
     ·rw [List.getElem?_set_self (by simp; omega)]
     ·rw [List.getElem?_set_ne (by omega),List.getElem?_append_right (by simp)]; simp [exsA,Ex.cells]
    ·have hul:0 < us.length:=List.length_pos_iff.2 hne
     simp -implicitDefEqProofs [f0,f5,hH3,hr,hul]
     refine SC.rd (by simp) [.ptr 0 0,sv sComma] (by simp) (all:=all) (l:=l) (a:=a) (why:=0) (wh:=p) (n:=n') (by simp -implicitDefEqProofs [hH0]) (args_comma hm hA hne h1 hq') (by simp [toO]) ⟨0,by simp⟩ (by simp [lentO]) ?_ (tg:=.mk)
     rintro x cs - ⟨rfl,a1,w1,p1,n1,rfl,hA1,hlt⟩
     simp -implicitDefEqProofs [f0,f5]
     refine SC.rd (by simp) [.ptr 0 0] (by simp) (all:=all) (l:=l) (a:=a1) (why:=w1) (wh:=p1) (n:=n1) (by simp -implicitDefEqProofs [hl0]) (args_expr hm hX ⟨hn0,hn1⟩ hA1) (by simp [toO]) ⟨0,by simp⟩ (by simp [lentO]) ?_ (tg:=.mk)
     rintro x cs - ⟨e,rfl,a2,w2,p2,n2,rfl,hA2,hlt2⟩
     obtain ⟨o,nm,tl,ty,num,args,pos⟩:=e
     have hrl:r < H.length:=(List.getElem?_eq_some_iff.1 hr).1
     have h3X:∀ (o:Ob) (X:List Ob),(H.set 0 o++X)[3]? = some (.var [iv 7,sv m.text,sv [],iv 0,cv 0 0,.row r,iv m.pos]):=fun o X=>by
      rw [List.getElem?_append_left (by simpa using hl3),List.getElem?_set_ne (by omega)]; exact hH3
     have hrX:∀ (o:Ob) (X:List Ob),(H.set 0 o++X)[r]? = some (.own 55 7 us.length (exsA us)):=fun o X=>by
      rw [List.getElem?_append_left (by simpa using hrl),List.getElem?_set_ne (by omega)]; exact hr
     have h3Y:∀ (o:Ob) (X Y:List Ob),((H.set 0 o++X).set r .gone++Y)[3]? = some (.var [iv 7,sv m.text,sv [],iv 0,cv 0 0,.row r,iv m.pos]):=fun o X Y=>by
      rw [List.getElem?_append_left (by simp; omega),List.getElem?_set_ne (by omega)]; exact h3X o X
     have hul2:us.length≤40000:=by
      obtain ⟨ha,⟨_,_,_,hb,hl,h1⟩ | ⟨hw,hP⟩⟩:=hA
      ·omega
      ·exact absurd rfl hw
     have hb1:(us.length + 1) * 96≤140737488355328:=by omega
     have hb2:us.length + 1≤1073741824:=by omega
     have hb3:us.length≤1073741823:=by omega
     simp -implicitDefEqProofs [exA,Ex.cells,wrOb,splice,f0,f5,h3X,hrX,h3Y,hb1,hb2,hb3,evP,fillA]
     refine ⟨if w2=0 then all.length - a2 else 0,?_,us++[.mk o nm tl ty num args pos],a2,w2,p2,n2,.row (H.length + 2),hA2,?_,by simp [f0],by simp [f4],by simp [f5],?_,?_,?_,.inr ⟨H.length + 2,by omega,rfl,by simp,?_⟩⟩
     ·rcases hg with ⟨_,hg⟩ | ⟨h,_⟩
      ·split
       ·rename_i hw1; have:=hlt2 hw1; have:=hlt this.1; omega
       ·omega
      ·exact absurd rfl h
     ·by_cases hw1:w2=0
      ·exact .inl ⟨hw1,by rw [if_pos hw1]⟩
      ·exact .inr ⟨hw1,by rw [if_neg hw1]⟩
     ·rw [List.getElem?_set_ne (by omega),List.getElem?_append_left (by simp),List.getElem?_set_ne (by omega),List.getElem?_append_left (by simpa using hl0),List.getElem?_set_self hl0]
     ·rw [List.getElem?_set_ne (by omega),List.getElem?_append_left (by simp; omega),List.getElem?_set_ne (by omega),List.getElem?_append_left (by simp; omega),List.getElem?_set_ne (by omega)]; exact hH2
     ·rw [List.getElem?_set_self (by simp; omega)]
     ·rw [List.getElem?_set_ne (by omega),List.getElem?_append_right (by simp)]; simp [exsA_snoc,Ex.cells]
   ·simp -implicitDefEqProofs [f0,f4,f5,hH3]
    refine SC.rd (by simp) [.ptr 0 0,sv sClose] (by simp) (all:=all) (l:=l) (a:=a) (why:=0) (wh:=p) (n:=n') (by simp -implicitDefEqProofs [hH0]) (args_close hm hA (fun _=>⟨_,h1,hq'⟩)) (by simp [toO]) ⟨0,by simp⟩ (by simp [lentO]) ?_ (tg:=.mk)
    rintro x cs - ⟨rfl,a1,w1,p1,n1,rfl,ha1,hE⟩
    have hS:∀ (o:Ob),(H.set 0 o)[3]? = some (.var [iv 7,sv m.text,sv [],iv 0,cv 0 0,X,iv m.pos]):=fun o=>by rw [List.getElem?_set_ne (by omega)]; exact hH3
    have hT:∀ (o:Ob),(H.set 0 o)[2]? = some (.var [iv 0,sv [],sv [],iv 0,cv 0 0,.v (.slice none 0 0),iv 0]):=fun o=>by rw [List.getElem?_set_ne (by omega)]; exact hH2
    have q2:∀ (o o':Ob),((H.set 0 o).set 2 o')[2]? = some o':=fun o o'=>by rw [List.getElem?_set_self (by simp; omega)]
    have q0:∀ (o o':Ob),((H.set 0 o).set 2 o')[0]? = some o:=fun o o'=>by rw [List.getElem?_set_ne (by omega),List.getElem?_set_self hl0]
    have hfin:Out (P l (.unit n (m :: all.drop (b + 1)))) all l b n (exA (.mk 7 m.text [] 0 (0,0) us m.pos)) (rdr all l a1 w1 p1 n1):=by
     rcases hE with ⟨rfl,rfl,rfl,hb1,hP⟩ | ⟨hw1,hP⟩
     ·refine .inl ⟨.mk 7 m.text [] 0 (0,0) us m.pos,a1,?_,rfl,by omega,ha1,rfl⟩
      rw [drop_at h0]; exact .call hk hq hP
     ·refine .inr ⟨w1,p1,_,a1,n1,?_,hw1,rfl,ha1,rfl⟩
      rw [drop_at h0]; exact .call hk hq hP
    rcases hR with ⟨rfl,rfl⟩ | ⟨r,hr3,rfl,hne,hr⟩
    ·simp -implicitDefEqProofs [f4,f5,hS,hT,q2,q0,finM,wrOb,splice,rdr_deep]
     refine ⟨by simp [rdr],?_⟩
     simpa [exA,Ex.cells,exsA,W0] using hfin
    ·have qr:∀ (o o':Ob),((H.set 0 o).set 2 o')[r]? = some (.own 55 7 us.length (exsA us)):=fun o o'=>by rw [List.getElem?_set_ne (by omega),List.getElem?_set_ne (by omega)]; exact hr
     have q0r:∀ (o o' o'':Ob),(((H.set 0 o).set 2 o').set r o'')[0]? = some o:=fun o o' o''=>by rw [List.getElem?_set_ne (by omega)]; exact q0 o o'
     simp -implicitDefEqProofs [f4,f5,hS,hT,q2,q0,qr,q0r,finM,wrOb,splice,rdr_deep]
     refine ⟨by simp [rdr],?_⟩
     simpa [exA,Ex.cells,exsA,W0] using hfin
  ·have hr0:(rdr all l a w p n')[2]? = some (iv w):=rfl
   simp -implicitDefEqProofs [f0,f4,f5,hH0,hr0,hw]
   refine SC.rd (by simp) [.ptr 0 0,sv sClose] (by simp) (all:=all) (l:=l) (a:=a) (why:=w) (wh:=p) (n:=n') (by simp -implicitDefEqProofs [hH0]) (args_close hm hA (fun h=>absurd h hw)) (by simp [toO]) ⟨0,by simp⟩ (by simp [lentO]) ?_ (tg:=.mk)
   rintro x cs - ⟨rfl,a1,w1,p1,n1,rfl,ha1,hE⟩
   have hS:∀ (o:Ob),(H.set 0 o)[3]? = some (.var [iv 7,sv m.text,sv [],iv 0,cv 0 0,X,iv m.pos]):=fun o=>by rw [List.getElem?_set_ne (by omega)]; exact hH3
   have hT:∀ (o:Ob),(H.set 0 o)[2]? = some (.var [iv 0,sv [],sv [],iv 0,cv 0 0,.v (.slice none 0 0),iv 0]):=fun o=>by rw [List.getElem?_set_ne (by omega)]; exact hH2
   have q2:∀ (o o':Ob),((H.set 0 o).set 2 o')[2]? = some o':=fun o o'=>by rw [List.getElem?_set_self (by simp; omega)]
   have q0:∀ (o o':Ob),((H.set 0 o).set 2 o')[0]? = some o:=fun o o'=>by rw [List.getElem?_set_ne (by omega),List.getElem?_set_self hl0]
   have hfin:Out (P l (.unit n (m :: all.drop (b + 1)))) all l b n (exA (.mk 7 m.text [] 0 (0,0) us m.pos)) (rdr all l a1 w1 p1 n1):=by
    rcases hE with ⟨rfl,rfl,rfl,hb1,hP⟩ | ⟨hw1,hP⟩
    ·refine .inl ⟨.mk 7 m.text [] 0 (0,0) us m.pos,a1,?_,rfl,by omega,ha1,rfl⟩
     rw [drop_at h0]; exact .call hk hq hP
    ·refine .inr ⟨w1,p1,_,a1,n1,?_,hw1,rfl,ha1,rfl⟩
     rw [drop_at h0]; exact .call hk hq hP
   rcases hR with ⟨rfl,rfl⟩ | ⟨r,hr3,rfl,hne,hr⟩
   ·simp -implicitDefEqProofs [f4,f5,hS,hT,q2,q0,finM,wrOb,splice,rdr_deep]
    refine ⟨by simp [rdr],?_⟩
    simpa [exA,Ex.cells,exsA,W0] using hfin
   ·have qr:∀ (o o':Ob),((H.set 0 o).set 2 o')[r]? = some (.own 55 7 us.length (exsA us)):=fun o o'=>by rw [List.getElem?_set_ne (by omega),List.getElem?_set_ne (by omega)]; exact hr
    have q0r:∀ (o o' o'':Ob),(((H.set 0 o).set 2 o').set r o'')[0]? = some o:=fun o o' o''=>by rw [List.getElem?_set_ne (by omega)]; exact q0 o o'
    simp -implicitDefEqProofs [f4,f5,hS,hT,q2,q0,qr,q0r,finM,wrOb,splice,rdr_deep]
    refine ⟨by simp [rdr],?_⟩
    simpa [exA,Ex.cells,exsA,W0] using hfin
end
end Go.Proofs.YtgddkgbidhhheaaGreatDoor
set_option linter.unusedVariables false
set_option linter.unusedSimpArgs false
set_option maxRecDepth 100000
namespace Go.Proofs.YtgddkgbidhhheaaGreatDoor
open Go.RowKit Flo Ab Mk Pg
section
variable {G:World→Prop} {all:List M} {l:Lim} {b:Nat} {n:Int}
theorem isW_of {m:M} {s:List UInt8} (hk:m.kind=1) (ht:m.text=s):isW m s=true:=by unfold isW; rw [hk,ht]; simp
theorem isW_not {m:M} {s:List UInt8} (ht:m.text≠s):isW m s=false:=by
 unfold isW
 rw [beq_eq_false_iff_ne.2 ht,Bool.and_false]
theorem wordN_cases {m:M} (hk:m.kind=1) (h:wordN m.text≠0):(∃ op,word0 m=some op∧wordN m.text=op∧(op=2∨op=3∨op=4))∨(isW m tFail=true∧wordN m.text=5)∨(∃ op,word1 m=some op∧wordN m.text=op∧(op=14∨op=15∨op=16∨op=17)):=by
 by_cases h1:m.text=tTrue
 ·exact .inl ⟨2,by unfold word0; rw [if_pos (isW_of hk h1)],by rw [h1]; decide,by simp⟩
 by_cases h2:m.text=tFalse
 ·exact .inl ⟨3,by unfold word0; rw [isW_not h1,isW_of hk h2]; rfl,by rw [h2]; decide,by simp⟩
 by_cases h3:m.text=tNil
 ·exact .inl ⟨4,by unfold word0; rw [isW_not h1,isW_not h2,isW_of hk h3]; rfl,by rw [h3]; decide,by simp⟩
 by_cases h4:m.text=tFail
 ·exact .inr (.inl ⟨isW_of hk h4,by rw [h4]; decide⟩)
 by_cases h5:m.text=tNot
 ·exact .inr (.inr ⟨14,by unfold word1; rw [if_pos (isW_of hk h5)],by rw [h5]; decide,by simp⟩)
 by_cases h6:m.text=tRe
 ·exact .inr (.inr ⟨15,by unfold word1; rw [isW_not h5,isW_of hk h6]; rfl,by rw [h6]; decide,by simp⟩)
 by_cases h7:m.text=tIm
 ·exact .inr (.inr ⟨16,by unfold word1; rw [isW_not h5,isW_not h6,isW_of hk h7]; rfl,by rw [h7]; decide,by simp⟩)
 by_cases h8:m.text=tConj
 ·exact .inr (.inr ⟨17,by unfold word1; rw [isW_not h5,isW_not h6,isW_not h7,isW_of hk h8]; rfl,by rw [h8]; decide,by simp⟩)
 ·exact absurd (by unfold wordN; rw [if_neg h1,if_neg h2,if_neg h3,if_neg h4,if_neg h5,if_neg h6,if_neg h7,if_neg h8]) h
theorem wordN_none {m:M} (h:(m.kind≠1∧m.kind≠3)∨wordN m.text=0):word0 m=none∧isW m tFail=false∧word1 m=none:=by
 have key:∀ s ∈ [tTrue,tFalse,tNil,tFail,tNot,tRe,tIm,tConj],isW m s=false:=by
  intro s hs
  rcases h with ⟨h1,h3⟩ | h
  ·unfold isW
   rw [beq_eq_false_iff_ne.2 h1,beq_eq_false_iff_ne.2 h3]; rfl
  ·apply isW_not
   rintro rfl
   simp only [List.mem_cons,List.not_mem_nil,or_false] at hs
   rcases hs with hs | hs | hs | hs | hs | hs | hs | hs<;>rw [hs] at h<;>exact absurd h (by decide)
 unfold word0 word1
 rw [key tTrue (by simp),key tFalse (by simp),key tNil (by simp),key tFail (by simp),key tNot (by simp),key tRe (by simp),key tIm (by simp),key tConj (by simp)]
 exact ⟨rfl,rfl,rfl⟩
theorem unit_ok (hm : Mks all) (hX : HX G all l b) (hb : b < all.length) : GC G 170 all l .unit b := by
  intro n hn0 hn1
  have hlen := hm.len
  obtain ⟨m, h0⟩ : ∃ m, all[b]? = some m := ⟨_, List.getElem?_eq_getElem hb⟩
  rw [drop_at h0]
  have hw : IntKind.i64.wrap ((b : Int) + 1) = ((b + 1 : Nat) : Int) := by rw [wrap64 _ (by omega)]; omega
  have fold : ∀ (a : Nat) (w p n : Int), [AV.sl all.length (mksA all), iv (a : Int), iv w, iv p, iv l.text, iv l.funcs, iv l.arity, iv l.nest, iv n] = rdr all l a w p n := fun _ _ _ _ => rfl
  refine AM.go hmix F_punit (by simp) ?_
  simp -implicitDefEqProofs [c_punit]
  refine SC.rd (by simp) [.ptr 0 0] (by simp) (all := all) (l := l) (a := b) (why := 0) (wh := 0) (n := n) (by simp) (rnext_ap all l b 0 0 n h0) (by simp [toO]) ⟨0, by simp⟩ (by simp [lentO]) ?_ (tg := .mk)
  rintro x cs - ⟨rfl, rfl⟩
  by_cases k2 : m.kind = 2
  · have k2' : (m.kind : Int) = 2 := by omega
    simp -implicitDefEqProofs [rdr, mcells, wrOb, splice, k2', hw, evP, fillA, finM, -Int.natCast_add]
    refine .inl ⟨.mk 1 [] [] 0 m.num [] m.pos, b + 1, .num _ _ k2, ?_, by omega, hm.fin _ _ h0 (by omega), rfl⟩
    simp [exA, Ex.cells, exsA]
  have k2' : ¬ (m.kind : Int) = 2 := by omega
  by_cases k0 : m.kind = 0
  · have k0' : (m.kind : Int) = 0 := by omega
    have hna := named_ok (G := G) hm hX hn0 (by omega) k0 (hm.fin _ _ h0 (by omega))
    have hmc : mcells m = [iv 0, sv m.text, cv (W m.num.1) (W m.num.2), iv m.pos] := by simp [mcells, k0']
    rw [hmc] at hna
    simp -implicitDefEqProofs [rdr, mcells, wrOb, splice, k0', hw, evP, fillA, finM, -Int.natCast_add]
    refine SC.rd (by simp) [.ptr 0 0, .agg [iv 0, sv m.text, cv (W m.num.1) (W m.num.2), iv m.pos]] (by simp) (all := all) (l := l) (a := b + 1) (why := 0) (wh := 0) (n := n) (by simp -implicitDefEqProofs [rdr]) (hna) (by simp [toO]) ⟨0, by simp⟩ (by simp [lentO]) ?_ (tg := .mk)
    rintro x cs hcs hO
    have hO' := hO
    rcases hO with ⟨e, a', hP, rfl, ha1, ha2, rfl⟩ | ⟨w, p, e, a', n1, hP, hw, rfl, ha2, rfl⟩
    · obtain ⟨o, nm, tl, ty, num, args, pos⟩ := e
      simp -implicitDefEqProofs [exA, Ex.cells, wrOb, splice, finM]
      exact ⟨by simp [rdr], hO'⟩
    · obtain ⟨o, nm, tl, ty, num, args, pos⟩ := e
      simp -implicitDefEqProofs [exA, Ex.cells, wrOb, splice, finM]
      exact ⟨by simp [rdr], hO'⟩
  have k0' : ¬ (m.kind : Int) = 0 := by omega
  have htake := rtake_ap (G := G) all l b 0 0 n sOpen h0 (by omega)
  obtain ⟨q, hq⟩ : ∃ q, isW m sOpen = q := ⟨_, rfl⟩
  rw [hq] at htake
  simp -implicitDefEqProofs [rdr, mcells, wrOb, splice, k0, k2, k0', k2', evP, fillA, finM]
  refine SC.rd (by simp) [.ptr 0 0, sv sOpen] (by simp) (all := all) (l := l) (a := b) (why := 0) (wh := 0) (n := n) (by simp -implicitDefEqProofs [rdr]) (htake) (by simp [toO]) ⟨0, by simp⟩ (by simp [lentO]) ?_ (tg := .mk)
  rintro x cs - ⟨rfl, rfl⟩
  cases q
  · have hbad : (m.kind ≠ 1 ∧ m.kind ≠ 3) ∨ wordN m.text = 0 → Out (P l (.unit n (m :: all.drop (b + 1)))) all l b n (exA Ex.zero) (rdr all l b 21 m.pos n) := by
      intro hcase
      obtain ⟨hw0, hwf, hw1⟩ := wordN_none hcase
      exact .inr ⟨21, m.pos, _, b, n, .unitBad _ _ k2 k0 hq hw0 hwf hw1, by omega, rfl, hb, rfl⟩
    have hfail := rfail_ap (G := G) all l b 0 0 n 21 h0
    by_cases k1 : m.kind = 1
    · have k1' : (m.kind : Int) = 1 := by omega
      simp -implicitDefEqProofs [k1']
      refine SC.frz (by simp) [sv m.text] (by simp) (post := fun x => x = iv (wordN m.text)) (by simpa using pword_ap m.text) (by simp) ?_ (a := .mk)
      rintro x rfl
      by_cases hwn : wordN m.text = 0
      · simp -implicitDefEqProofs [hwn]
        refine SC.rd (by simp) [.ptr 0 0, iv 21] (by simp) (all := all) (l := l) (a := b) (why := 0) (wh := 0) (n := n) (by simp -implicitDefEqProofs [rdr]) (hfail) (by simp [toO]) ⟨0, by simp⟩ (by simp [lentO]) ?_ (tg := .mk)
        rintro x cs - ⟨rfl, rfl⟩
        simp -implicitDefEqProofs [wrOb, splice, evP, fillA, finM]
        refine ⟨by simp [rdr], ?_⟩
        have := hbad (.inr hwn)
        rw [exA, zeroE_cells] at this
        exact this
      · simp -implicitDefEqProofs [hwn, hw, rdr, wrOb, splice, -Int.natCast_add]
        refine DC.go [sv m.text] (iv (wordN m.text)) (by simp) (by simpa using pword_ap m.text) (by simp) (by simp) ?_ (a := .mk)
        have hk4 : m.kind ≠ 4 := by omega
        have hb1 := hm.fin _ _ h0 hk4
        rcases wordN_cases k1 hwn with ⟨op, hop, he, hc⟩ | ⟨hf, he⟩ | ⟨op, hop, he, hc⟩
        · rw [he]
          have h5 : ¬ op = 5 := by omega
          have h14 : ¬ op = 14 := by omega
          have h15 : ¬ op = 15 := by omega
          have h16 : ¬ op = 16 := by omega
          have h17 : ¬ op = 17 := by omega
          simp -implicitDefEqProofs [h5, h14, h15, h16, h17, wrOb, splice, evP, fillA, finM, -Int.natCast_add]
          refine .inl ⟨.mk op [] [] 0 (0, 0) [] m.pos, b + 1, .word0 _ _ hop, ?_, by omega, hb1, rfl⟩
          simp [exA, Ex.cells, exsA, W0]
        · rw [he]
          have hS := Sq.new (l := l) (n := n) hb1 (show b < b + 1 by omega) [.ty]
          simp -implicitDefEqProofs [wrOb, splice, evP, fillA, -Int.natCast_add]
          refine SC.rd (by simp) [.ptr 0 0] (by simp) (all := all) (l := l) (a := b + 1) (why := 0) (wh := 0) (n := n) (by simp -implicitDefEqProofs [rdr]) (typ_sq hm hS) (by simp [toO]) ⟨0, by simp⟩ (by simp [lentO]) ?_ (tg := .mk)
          rintro x cs - ⟨t, rfl, a1, w1, p1, n1, rfl, hS1⟩
          simp -implicitDefEqProofs [wrOb, splice, evP, fillA, finM]
          refine ⟨by simp [rdr], ?_⟩
          rcases hS1.end with ⟨rfl, rfl, rfl, hb2, hl2, hP⟩ | ⟨hw2, hl2, hP⟩
          · exact .inl ⟨.mk 5 [] [] t (0, 0) [] m.pos, a1, .fail hf hP, by simp [exA, Ex.cells, exsA, W0], by omega, hl2, rfl⟩
          · exact .inr ⟨w1, p1, .mk 5 [] [] t (0, 0) [] m.pos, a1, n1, .fail hf hP, hw2, by simp [exA, Ex.cells, exsA, W0], hl2, rfl⟩
        · rw [he]
          have hS := Sq.new (l := l) (n := n) hb1 (show b < b + 1 by omega) [.w sOpen, .e, .w sClose]
          have h5 : ¬ op = 5 := by omega
          rcases hc with rfl | rfl | rfl | rfl
          all_goals
            simp -implicitDefEqProofs [wrOb, splice, evP, fillA, -Int.natCast_add]
            refine SC.rd (by simp) [.ptr 0 0, sv sOpen] (by simp) (all := all) (l := l) (a := b + 1) (why := 0) (wh := 0) (n := n) (by simp -implicitDefEqProofs [rdr]) (want_sq hm hS) (by simp [toO]) ⟨0, by simp⟩ (by simp [lentO]) ?_ (tg := .mk)
            rintro x cs - ⟨rfl, a1, w1, p1, n1, rfl, hS1⟩
            simp -implicitDefEqProofs
            refine SC.rd (by simp) [.ptr 0 0] (by simp) (all := all) (l := l) (a := a1) (why := w1) (wh := p1) (n := n1) (by simp) (expr_sq hm hX ⟨hn0, by omega⟩ hS1) (by simp [toO]) ⟨0, by simp⟩ (by simp [lentO]) ?_ (tg := .mk)
            rintro x cs - ⟨e, rfl, a2, w2, p2, n2, rfl, hS2⟩
            obtain ⟨o, nm, tl, ty, num, args, pos⟩ := e
            simp -implicitDefEqProofs [exA, Ex.cells, wrOb, splice]
            refine SC.rd (by simp) [.ptr 0 0, sv sClose] (by simp) (all := all) (l := l) (a := a2) (why := w2) (wh := p2) (n := n2) (by simp) (want_sq hm hS2) (by simp [toO]) ⟨0, by simp⟩ (by simp [lentO]) ?_ (tg := .mk)
            rintro x cs - ⟨rfl, a3, w3, p3, n3, rfl, hS3⟩
            simp -implicitDefEqProofs [exA, Ex.cells, wrOb, splice, evP, fillA, finM]
            refine ⟨by simp [rdr], ?_⟩
            rcases hS3.end with ⟨rfl, rfl, rfl, hb2, hl2, hP⟩ | ⟨hw2, hl2, hP⟩
            · exact .inl ⟨.mk _ [] [] 0 (0, 0) [.mk o nm tl ty num args pos] m.pos, a3, .word1 hop hP, by simp [exA, Ex.cells, exsA, W0], by omega, hl2, rfl⟩
            · exact .inr ⟨w3, p3, .mk _ [] [] 0 (0, 0) [.mk o nm tl ty num args pos] m.pos, a3, n3, .word1 hop hP, hw2, by simp [exA, Ex.cells, exsA, W0]; rfl, hl2, rfl⟩
    · have k1' : ¬ (m.kind : Int) = 1 := by omega
      simp -implicitDefEqProofs [k1', k1]
      refine SC.rd (by simp) [.ptr 0 0, iv 21] (by simp) (all := all) (l := l) (a := b) (why := 0) (wh := 0) (n := n) (by simp -implicitDefEqProofs [rdr]) (hfail) (by simp [toO]) ⟨0, by simp⟩ (by simp [lentO]) ?_ (tg := .mk)
      rintro x cs - ⟨rfl, rfl⟩
      simp -implicitDefEqProofs [wrOb, splice, evP, fillA, finM]
      refine ⟨by simp [rdr], ?_⟩
      have := hbad (by
        by_cases k3 : m.kind = 3
        · exact .inr (hm.sign m (at_mem h0) k3)
        · exact .inl ⟨k1, k3⟩)
      rw [exA, zeroE_cells] at this
      exact this
  · have hk4 := (isW_kind hq).2.2
    have hS := Sq.new (l := l) (n := n) (hm.fin _ _ h0 hk4) (show b < b + 1 by omega) [.e, .w sClose]
    simp -implicitDefEqProofs
    refine SC.rd (by simp) [.ptr 0 0] (by simp) (all := all) (l := l) (a := b + 1) (why := 0) (wh := 0) (n := n) (by simp) (expr_sq hm hX ⟨hn0, by omega⟩ hS) (by simp [toO]) ⟨0, by simp⟩ (by simp [lentO]) ?_ (tg := .mk)
    rintro x cs - ⟨e, rfl, a1, w1, p1, n1, rfl, hS1⟩
    obtain ⟨o, nm, tl, ty, num, args, pos⟩ := e
    simp -implicitDefEqProofs [exA, Ex.cells, wrOb, splice]
    refine SC.rd (by simp) [.ptr 0 0, sv sClose] (by simp) (all := all) (l := l) (a := a1) (why := w1) (wh := p1) (n := n1) (by simp) (want_sq hm hS1) (by simp [toO]) ⟨0, by simp⟩ (by simp [lentO]) ?_ (tg := .mk)
    rintro x cs - ⟨rfl, a2, w2, p2, n2, rfl, hS2⟩
    simp -implicitDefEqProofs [exA, Ex.cells, wrOb, splice, finM]
    refine ⟨by simp [rdr], ?_⟩
    rcases hS2.end with ⟨rfl, rfl, rfl, hb2, hl2, hP⟩ | ⟨hw2, hl2, hP⟩
    · exact .inl ⟨.mk o nm tl ty num args pos, a2, .par hq hP, by simp [exA, Ex.cells], by omega, hl2, rfl⟩
    · exact .inr ⟨w2, p2, .mk o nm tl ty num args pos, a2, n2, .par hq hP, hw2, by simp [exA, Ex.cells], hl2, rfl⟩
end
end Go.Proofs.YtgddkgbidhhheaaGreatDoor
set_option linter.unusedVariables false
set_option linter.unusedSimpArgs false
set_option maxRecDepth 100000
namespace Go.Proofs.YtgddkgbidhhheaaGreatDoor
open Go.RowKit Flo Ab Mk Pg
section
variable {G:World→Prop} {l:Lim} {E:Int→Int→Prop} {n:Int} {Q:Res→Prop} {vs:List Vl} {is:List It}
structure MuI (l:Lim) (n:Int) (Q:Res→Prop) (vs:List Vl) (is:List It) (ss:List (List UInt8)) (len:Nat) (g:Nat) (F:Fr) (H:List Ob):Prop where
 k:∃ (j:Nat) (ms:List M),j≤ss.length∧g=ss.length - j∧F 8=some (iv j)∧H=[.var (prs l ms n)]∧SqL l n Q (vs++List.replicate j .u) ((ss.drop j).map It.w++is) ms∧ms.length + j=len
 f0:F 0=some (.ptr 0 0)
 f6:F 6=some (.sl ss.length (ss.map sv))
 f7:F 7=some (iv ss.length)
theorem lmust_sq (ss:List (List UInt8)) (hss:ss.length≤1000) {ms:List M} (h:SqL l n Q vs (ss.map It.w++is) ms) (hE:∀ w p,Q (.bad w p)→E w p):AM Tryz.prog (Gl G l E) 66 [.ptr 0 0,.sl ss.length (ss.map sv)] (prs l ms n)
  (fun x cs=>x=.tup []∧∃ ms',cs=prs l ms' n∧SqL l n Q (vs++List.replicate ss.length .u) is ms'∧ms'.length + ss.length=ms.length):=by
 refine AM.go hmix F_lmust (by simp) ?_
 simp -implicitDefEqProofs [c_lmust]
 refine LP.go (MuI l n Q vs is ss ms.length) ss.length ⟨⟨0,ms,by simp,by simp,by simp,rfl,by simpa using h,by simp⟩,by simp,by simp,by simp⟩ ?_
 unfold c_lmust_L0
 rintro g F H ⟨⟨j,ms,hj,rfl,h8,rfl,hS,hlen⟩,h0,h6,h7⟩
 by_cases hjl:j < ss.length
 ·have hjl':(j:Int) < ss.length:=by omega
  have hw1:IntKind.i64.wrap ((j:Int) + 1)=((j + 1:Nat):Int):=by rw [wrap64 _ (by omega)]; omega
  have hat:(ss.map sv)[j]? = some (sv ss[j]):=by simp [hjl]
  have hdr:ss.drop j=ss[j] :: ss.drop (j + 1):=List.drop_eq_getElem_cons hjl
  rw [hdr,List.map_cons,List.cons_append] at hS
  obtain ⟨s,hs⟩:∃ s,ss[j]=s:=⟨_,rfl⟩
  rw [hs] at hat hS
  obtain ⟨m,r,rfl⟩:=hS.1.cons
  obtain ⟨q,hq⟩:∃ q,isW m s=q:=⟨_,rfl⟩
  have hmay:=lmay_ap (G:=G) (l:=l) (E:=E) s m r n
  rw [hq] at hmay
  simp -implicitDefEqProofs [-Int.natCast_add,h0,h6,h7,h8,hjl,hjl',hat,hs]
  refine SC.pr (by simp) [.ptr 0 0,sv s] (by simp) (ms:=m :: r) (n:=n) (by simp -implicitDefEqProofs [h0,h6,h7,h8]) (hmay) (by simp [toO]) ⟨0,by simp⟩ (by simp [lentO]) ?_ (tg:=.mk)
  rintro x cs - ⟨rfl,rfl⟩
  cases q
  ·simp -implicitDefEqProofs [-Int.natCast_add,h0,h6,h7,h8]
   refine SC.pr (by simp) [.ptr 0 0,iv 21] (by simp) (ms:=m :: r) (n:=n) (by simp -implicitDefEqProofs [h0,h6,h7,h8]) (lgive_ap m r n 21 (hE _ _ (hS.wBad hq))) (by simp [toO]) ⟨0,by simp⟩ (by simp [lentO]) ?_ (tg:=.mk)
   rintro x cs - hf
   exact hf.elim
  ·simp -implicitDefEqProofs [-Int.natCast_add,h0,h6,h7,h8,hw1]
   refine ⟨ss.length - (j + 1),by omega,⟨⟨j + 1,r,by omega,rfl,by simp,rfl,?_,by simp only [List.length_cons] at hlen; omega⟩,by simp [h0],by simp [h6],by simp [h7]⟩⟩
   have:=hS.w hq
   rwa [List.append_assoc,← List.replicate_succ'] at this
 ·have hje:j=ss.length:=by omega
  subst hje
  simp -implicitDefEqProofs [-Int.natCast_add,h0,h6,h7,h8,finM]
  refine ⟨by simp [prs],ms,rfl,?_,hlen⟩
  simpa using hS
def strN (m:M):Int × Int:=match strOf m with
 | some (lv,op)=>((lv:Int),op)
 | none=>(-1,0)
theorem isW_sign {m:M} {s:List UInt8} (hk:m.kind=3):isW m s=(m.text == s):=by unfold isW; rw [hk]; simp
theorem isW_word {m:M} {s:List UInt8} (hk:m.kind=1):isW m s=(m.text == s):=by unfold isW; rw [hk]; simp
theorem isW_resv {m:M} {s:List UInt8} (htx:m.kind=1↔m.text ∈ resv) (hs:s ∈ resv) (hk:m.kind≠1):isW m s=false:=isW_not (fun e=>hk (htx.2 (e ▸ hs)))
theorem isW_sgn {m:M} {s:List UInt8} (htx:m.kind=1↔m.text ∈ resv) (hs:s ∉ resv) (hk:m.kind≠3):isW m s=false:=by
 by_cases h1:m.kind=1
 ·rw [isW_word h1]
  exact beq_eq_false_iff_ne.2 (fun e=>hs (e ▸ htx.1 h1))
 ·unfold isW
  rw [beq_eq_false_iff_ne.2 h1,beq_eq_false_iff_ne.2 hk]; rfl
theorem lstrength_ap (m : M) (htx : m.kind = 1 ↔ m.text ∈ resv) : AP Tryz.prog G 130 [.agg (mcells m)] (fun x => x = .tup [iv (strN m).1, iv (strN m).2]) := by
  refine AP.go hmix F_lstrength (by simp) ?_
  by_cases hk : m.kind = 3
  · have hk' : (m.kind : Int) = 3 := by omega
    unfold strN strOf
    simp only [isW_sign hk]
    by_cases h1 : m.text = sColon
    · simp -implicitDefEqProofs [c_lstrength, mcells, hk', h1, wrOb, splice]
    by_cases h2 : m.text = sEqEq
    · simp -implicitDefEqProofs [c_lstrength, mcells, hk', h2, wrOb, splice]
    by_cases h3 : m.text = sLess
    · simp -implicitDefEqProofs [c_lstrength, mcells, hk', h3, wrOb, splice]
    by_cases h4 : m.text = sPlus
    · simp -implicitDefEqProofs [c_lstrength, mcells, hk', h4, wrOb, splice]
    by_cases h5 : m.text = sMinus
    · simp -implicitDefEqProofs [c_lstrength, mcells, hk', h5, wrOb, splice]
    by_cases h6 : m.text = sStar
    · simp -implicitDefEqProofs [c_lstrength, mcells, hk', h6, wrOb, splice]
    by_cases h7 : m.text = sSlash
    · simp -implicitDefEqProofs [c_lstrength, mcells, hk', h7, wrOb, splice]
    · have b1 := beq_eq_false_iff_ne.2 h1
      have b2 := beq_eq_false_iff_ne.2 h2
      have b3 := beq_eq_false_iff_ne.2 h3
      have b4 := beq_eq_false_iff_ne.2 h4
      have b5 := beq_eq_false_iff_ne.2 h5
      have b6 := beq_eq_false_iff_ne.2 h6
      have b7 := beq_eq_false_iff_ne.2 h7
      simp -implicitDefEqProofs [c_lstrength, mcells, hk', b1, b2, b3, b4, b5, b6, b7, wrOb, splice]
  · have hk' : ¬ (m.kind : Int) = 3 := by omega
    have key : ∀ s ∈ [sColon, sEqEq, sLess, sPlus, sMinus, sStar, sSlash], isW m s = false := fun s hs => isW_sgn htx (by
      simp only [List.mem_cons, List.not_mem_nil, or_false] at hs
      rcases hs with rfl | rfl | rfl | rfl | rfl | rfl | rfl <;> decide) hk
    unfold strN strOf
    rw [key sColon (by simp), key sEqEq (by simp), key sLess (by simp), key sPlus (by simp), key sMinus (by simp), key sStar (by simp), key sSlash (by simp)]
    simp -implicitDefEqProofs [c_lstrength, mcells, hk', wrOb, splice]
end
end Go.Proofs.YtgddkgbidhhheaaGreatDoor
