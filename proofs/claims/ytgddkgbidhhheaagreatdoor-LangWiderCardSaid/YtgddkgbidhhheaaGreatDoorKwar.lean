/- Texts joined: Prb Prc Lna Lnb Lnc Prd Pre. -/
import Derived.Test.YtgddkgbidhhheaaGreatDoorKwaq
import Derived.Test.YtgddkgbidhhheaaGreatDoorKwam
import Derived.Test.YtgddkgbidhhheaaGreatDoorKwan
set_option linter.unusedVariables false
set_option linter.unusedSimpArgs false
set_option maxRecDepth 100000
namespace Go.Proofs.YtgddkgbidhhheaaGreatDoor
open Go.RowKit Flo Ab Mk Pg
section
variable {G:World→Prop}
theorem zeroE_cells:Ex.zero.cells=[iv 0,sv [],sv [],iv 0,cv 0 0,.sl 0 [],iv 0]:=by simp [Ex.zero,Ex.cells,exsA,W0]
theorem ptwo_ap (op:Int) (a b:Ex) (m:M):AP Tryz.prog G 133 [iv op,exA a,exA b,.agg (mcells m)] (fun x=>x=exA (two op a b m.pos)):=by
 obtain ⟨ao,an,at',aty,anum,aargs,apos⟩:=a
 obtain ⟨bo,bn,bt,bty,bnum,bargs,bpos⟩:=b
 refine AP.go hmix F_ptwo (by simp) ?_
 simp -implicitDefEqProofs [c_ptwo,exA,Ex.cells,mcells,two,exsA,W0,evP,fillA,wrOb,splice]
def wordN (s:List UInt8):Int:=if s=tTrue then 2 else if s=tFalse then 3 else if s=tNil then 4 else if s=tFail then 5 else if s=tNot then 14 else if s=tRe then 15 else if s=tIm then 16 else if s=tConj then 17 else 0
def BadC (G:World→Prop) (f:Nat) (all:List M) (l:Lim):Prop:=∀ (a:Nat) (w p n:Int),a < all.length→w≠0→AM Tryz.prog G f [.ptr 0 0] (rdr all l a w p n) (fun x cs=>∃ e:Ex,x=exA e∧cs=rdr all l a w p n)
theorem unit_bad (all:List M) (l:Lim):BadC G 170 all l:=by
 intro a w p n ha hw
 have h:all[a]? = some all[a]:=List.getElem?_eq_getElem ha
 refine AM.go hmix F_punit (by simp) ?_
 simp -implicitDefEqProofs [c_punit]
 refine SC.rd (by simp) [.ptr 0 0] (by simp) (all:=all) (l:=l) (a:=a) (why:=w) (wh:=p) (n:=n) (by simp) (rnext_ap all l a w p n h) (by simp [toO]) ⟨0,by simp⟩ (by simp [lentO]) ?_ (tg:=.mk)
 rintro x cs - ⟨rfl,rfl⟩
 simp -implicitDefEqProofs [rdr,mcells,wrOb,splice,hw,evP,fillA,finM]
 exact ⟨Ex.zero,by rw [exA,zeroE_cells]⟩
theorem is_bad (all:List M) (l:Lim) {a:Nat} {w p n:Int} (ha:a < all.length) (hw:w≠0) (s:List UInt8):AM Tryz.prog G 79 [.ptr 0 0,sv s] (rdr all l a w p n) (fun x cs=>x=bv false∧cs=rdr all l a w p n):=by
 have:=ris_ap (G:=G) all l a w p n s (List.getElem?_eq_getElem ha)
 simpa [hw] using this
theorem take_bad (all:List M) (l:Lim) {a:Nat} {w p n:Int} (ha:a < all.length) (ha':a < 1000000000) (hw:w≠0) (s:List UInt8):AM Tryz.prog G 110 [.ptr 0 0,sv s] (rdr all l a w p n) (fun x cs=>x=bv false∧cs=rdr all l a w p n):=by
 have:=rtake_ap (G:=G) all l a w p n s (List.getElem?_eq_getElem ha) ha'
 simpa [hw] using this
theorem term_bad (all:List M) (l:Lim):BadC G 159 all l:=by
 intro a w p n ha hw
 refine AM.go hmix F_pterm (by simp) ?_
 simp -implicitDefEqProofs [c_pterm]
 refine SC.rd (by simp) [.ptr 0 0] (by simp) (all:=all) (l:=l) (a:=a) (why:=w) (wh:=p) (n:=n) (by simp) (unit_bad all l a w p n ha hw) (by simp [toO]) ⟨0,by simp⟩ (by simp [lentO]) ?_ (tg:=.mk)
 rintro x cs - ⟨e,rfl,rfl⟩
 obtain ⟨o,nm,tl,ty,num,args,pos⟩:=e
 simp -implicitDefEqProofs [exA,Ex.cells,wrOb,splice]
 refine LP.go (fun g F H=>F 0=some (.ptr 0 0)∧F 2=some (.ptr 1 0)∧F 3=some (.ptr 2 0)∧H=[.var (rdr all l a w p n),.var [iv 0,sv [],sv [],iv 0,cv 0 0,.v (.slice none 0 0),iv 0],.var (Ex.mk o nm tl ty num args pos).cells]) 0 ⟨by simp,by simp,by simp,by simp [Ex.cells]⟩ ?_
 unfold c_pterm_L0
 rintro g F H ⟨f0,f2,f3,rfl⟩
 simp -implicitDefEqProofs [f0]
 refine SC.rd (by simp) [.ptr 0 0,sv sStar] (by simp) (all:=all) (l:=l) (a:=a) (why:=w) (wh:=p) (n:=n) (by simp) (is_bad all l ha hw sStar) (by simp [toO]) ⟨0,by simp⟩ (by simp [lentO]) ?_ (tg:=.mk)
 rintro x cs - ⟨rfl,rfl⟩
 simp -implicitDefEqProofs [f0]
 refine SC.rd (by simp) [.ptr 0 0,sv sSlash] (by simp) (all:=all) (l:=l) (a:=a) (why:=w) (wh:=p) (n:=n) (by simp) (is_bad all l ha hw sSlash) (by simp [toO]) ⟨0,by simp⟩ (by simp [lentO]) ?_ (tg:=.mk)
 rintro x cs - ⟨rfl,rfl⟩
 simp -implicitDefEqProofs [f0,f2,f3,Ex.cells,wrOb,splice,finM,rdr]
 exact ⟨Ex.mk o nm tl ty num args pos,by simp [exA,Ex.cells]⟩
theorem sum_bad (all:List M) (l:Lim):BadC G 147 all l:=by
 intro a w p n ha hw
 refine AM.go hmix F_psum (by simp) ?_
 simp -implicitDefEqProofs [c_psum]
 refine SC.rd (by simp) [.ptr 0 0] (by simp) (all:=all) (l:=l) (a:=a) (why:=w) (wh:=p) (n:=n) (by simp) (term_bad all l a w p n ha hw) (by simp [toO]) ⟨0,by simp⟩ (by simp [lentO]) ?_ (tg:=.mk)
 rintro x cs - ⟨e,rfl,rfl⟩
 obtain ⟨o,nm,tl,ty,num,args,pos⟩:=e
 simp -implicitDefEqProofs [exA,Ex.cells,wrOb,splice]
 refine LP.go (fun g F H=>F 0=some (.ptr 0 0)∧F 2=some (.ptr 1 0)∧F 3=some (.ptr 2 0)∧H=[.var (rdr all l a w p n),.var [iv 0,sv [],sv [],iv 0,cv 0 0,.v (.slice none 0 0),iv 0],.var (Ex.mk o nm tl ty num args pos).cells]) 0 ⟨by simp,by simp,by simp,by simp [Ex.cells]⟩ ?_
 unfold c_psum_L0
 rintro g F H ⟨f0,f2,f3,rfl⟩
 simp -implicitDefEqProofs [f0]
 refine SC.rd (by simp) [.ptr 0 0,sv sPlus] (by simp) (all:=all) (l:=l) (a:=a) (why:=w) (wh:=p) (n:=n) (by simp) (is_bad all l ha hw sPlus) (by simp [toO]) ⟨0,by simp⟩ (by simp [lentO]) ?_ (tg:=.mk)
 rintro x cs - ⟨rfl,rfl⟩
 simp -implicitDefEqProofs [f0]
 refine SC.rd (by simp) [.ptr 0 0,sv sMinus] (by simp) (all:=all) (l:=l) (a:=a) (why:=w) (wh:=p) (n:=n) (by simp) (is_bad all l ha hw sMinus) (by simp [toO]) ⟨0,by simp⟩ (by simp [lentO]) ?_ (tg:=.mk)
 rintro x cs - ⟨rfl,rfl⟩
 simp -implicitDefEqProofs [f0,f2,f3,Ex.cells,wrOb,splice,finM,rdr]
 exact ⟨Ex.mk o nm tl ty num args pos,by simp [exA,Ex.cells]⟩
theorem comp_bad (all:List M) (l:Lim) (hlen:all.length≤1000000000):BadC G 132 all l:=by
 intro a w p n ha hw
 have h:all[a]? = some all[a]:=List.getElem?_eq_getElem ha
 refine AM.go hmix F_pcomp (by simp) ?_
 simp -implicitDefEqProofs [c_pcomp]
 refine SC.rd (by simp) [.ptr 0 0] (by simp) (all:=all) (l:=l) (a:=a) (why:=w) (wh:=p) (n:=n) (by simp) (sum_bad all l a w p n ha hw) (by simp [toO]) ⟨0,by simp⟩ (by simp [lentO]) ?_ (tg:=.mk)
 rintro x cs - ⟨e,rfl,rfl⟩
 obtain ⟨o,nm,tl,ty,num,args,pos⟩:=e
 simp -implicitDefEqProofs [exA,Ex.cells,wrOb,splice]
 refine SC.rd (by simp) [.ptr 0 0] (by simp) (all:=all) (l:=l) (a:=a) (why:=w) (wh:=p) (n:=n) (by simp) (rnext_ap all l a w p n h) (by simp [toO]) ⟨0,by simp⟩ (by simp [lentO]) ?_ (tg:=.mk)
 rintro x cs - ⟨rfl,rfl⟩
 simp -implicitDefEqProofs [mcells,wrOb,splice]
 refine SC.rd (by simp) [.ptr 0 0,sv sLess] (by simp) (all:=all) (l:=l) (a:=a) (why:=w) (wh:=p) (n:=n) (by simp) (is_bad all l ha hw sLess) (by simp [toO]) ⟨0,by simp⟩ (by simp [lentO]) ?_ (tg:=.mk)
 rintro x cs - ⟨rfl,rfl⟩
 simp -implicitDefEqProofs
 refine SC.rd (by simp) [.ptr 0 0,sv sEqEq] (by simp) (all:=all) (l:=l) (a:=a) (why:=w) (wh:=p) (n:=n) (by simp) (take_bad all l ha (by omega) hw sEqEq) (by simp [toO]) ⟨0,by simp⟩ (by simp [lentO]) ?_ (tg:=.mk)
 rintro x cs - ⟨rfl,rfl⟩
 simp -implicitDefEqProofs
 refine SC.rd (by simp) [.ptr 0 0,sv sLess] (by simp) (all:=all) (l:=l) (a:=a) (why:=w) (wh:=p) (n:=n) (by simp) (take_bad all l ha (by omega) hw sLess) (by simp [toO]) ⟨0,by simp⟩ (by simp [lentO]) ?_ (tg:=.mk)
 rintro x cs - ⟨rfl,rfl⟩
 simp -implicitDefEqProofs [wrOb,splice,finM,rdr]
 exact ⟨Ex.mk o nm tl ty num args pos,by simp [exA,Ex.cells]⟩
theorem cons_bad (all:List M) (l:Lim) (hlen:all.length≤1000000000):BadC G 111 all l:=by
 intro a w p n ha hw
 have h:all[a]? = some all[a]:=List.getElem?_eq_getElem ha
 refine AM.go hmix F_pcons (by simp) ?_
 simp -implicitDefEqProofs [c_pcons]
 refine SC.rd (by simp) [.ptr 0 0] (by simp) (all:=all) (l:=l) (a:=a) (why:=w) (wh:=p) (n:=n) (by simp) (comp_bad all l hlen a w p n ha hw) (by simp [toO]) ⟨0,by simp⟩ (by simp [lentO]) ?_ (tg:=.mk)
 rintro x cs - ⟨e,rfl,rfl⟩
 obtain ⟨o,nm,tl,ty,num,args,pos⟩:=e
 simp -implicitDefEqProofs [exA,Ex.cells,wrOb,splice]
 refine SC.rd (by simp) [.ptr 0 0] (by simp) (all:=all) (l:=l) (a:=a) (why:=w) (wh:=p) (n:=n) (by simp) (rnext_ap all l a w p n h) (by simp [toO]) ⟨0,by simp⟩ (by simp [lentO]) ?_ (tg:=.mk)
 rintro x cs - ⟨rfl,rfl⟩
 simp -implicitDefEqProofs [mcells,wrOb,splice]
 refine SC.rd (by simp) [.ptr 0 0,sv sColon] (by simp) (all:=all) (l:=l) (a:=a) (why:=w) (wh:=p) (n:=n) (by simp) (take_bad all l ha (by omega) hw sColon) (by simp [toO]) ⟨0,by simp⟩ (by simp [lentO]) ?_ (tg:=.mk)
 rintro x cs - ⟨rfl,rfl⟩
 simp -implicitDefEqProofs [wrOb,splice,finM,rdr]
 exact ⟨Ex.mk o nm tl ty num args pos,by simp [exA,Ex.cells]⟩
end
end Go.Proofs.YtgddkgbidhhheaaGreatDoor
set_option linter.unusedVariables false
set_option linter.unusedSimpArgs false
set_option maxRecDepth 100000
namespace Go.Proofs.YtgddkgbidhhheaaGreatDoor
open Go.RowKit Flo Ab Mk Pg
structure Mks (all:List M):Prop where
 len:all.length≤40000
 fin:∀ (a:Nat) (m:M),all[a]? = some m→m.kind≠4→a + 1 < all.length
 sign:∀ m ∈ all,m.kind=3→wordN m.text=0
theorem drop_at {all:List M} {a:Nat} {m:M} (h:all[a]? = some m):all.drop a=m :: all.drop (a + 1):=by
 obtain ⟨hl,rfl⟩:=List.getElem?_eq_some_iff.1 h
 exact List.drop_eq_getElem_cons hl
def _root_.Go.Proofs.YtgddkgbidhhheaaGreatDoor.Pg.Res.pre (vs:List Vl) (r:Res):Res:=vs.foldr Res.cons r
theorem pre_snoc (vs:List Vl) (v:Vl) (r:Res):Res.pre (vs++[v]) r=Res.pre vs (r.cons v):=by unfold Res.pre; rw [List.foldr_append]; rfl
theorem pre_bad (vs:List Vl) (w p:Int):Res.pre vs (.bad w p)=.bad w p:=by
 unfold Res.pre
 induction vs with
 | nil=>rfl
 | cons v vs ih=>rw [List.foldr_cons,ih]; rfl
theorem pre_ok (vs us:List Vl) (ms:List M):Res.pre vs (.ok us ms)=.ok (vs++us) ms:=by
 unfold Res.pre
 induction vs with
 | nil=>rfl
 | cons v vs ih=>rw [List.foldr_cons,ih]; rfl
def Out (Pj:Res→Prop) (all:List M) (l:Lim) (b:Nat) (n:Int) (x:AV) (cs:List AV):Prop:=
 (∃ (e:Ex) (a':Nat),Pj (.ok [.e e] (all.drop a'))∧x=exA e∧b < a'∧a' < all.length∧cs=rdr all l a' 0 0 n)∨(∃ (w p:Int) (e:Ex) (a':Nat) (n':Int),Pj (.bad w p)∧w≠0∧x=exA e∧a' < all.length∧cs=rdr all l a' w p n')
def GC (G:World→Prop) (f:Nat) (all:List M) (l:Lim) (job:Int→List M→Job) (a:Nat):Prop:=∀ n:Int,0≤n→n≤a→AM Tryz.prog G f [.ptr 0 0] (rdr all l a 0 0 n) (fun x cs=>Out (P l (job n (all.drop a))) all l a n x cs)
section
variable {G:World→Prop} {all:List M} {l:Lim} {b:Nat} {n:Int} {Q:Res→Prop}
def HX (G:World→Prop) (all:List M) (l:Lim) (b:Nat):Prop:=∀ a:Nat,b < a→a < all.length→GC G 81 all l .expr a
end
end Go.Proofs.YtgddkgbidhhheaaGreatDoor
set_option linter.unusedVariables false
set_option linter.unusedSimpArgs false
set_option maxRecDepth 100000
namespace Go.Proofs.YtgddkgbidhhheaaGreatDoor
open Go.RowKit Flo Ab Mk Pg
def prs (l:Lim) (ms:List M) (n:Int):List AV:=[iv l.text,iv l.funcs,iv l.arity,iv l.nest,.sl ms.length (mksA ms),iv n]
theorem prs_deep (l:Lim) (ms:List M) (n:Int):(prs l ms n).all deep1=true:=rfl
def faultA (w p:Int):AV:=.ifc 34 (.agg [iv w,iv p])
@[reducible] def Gl (G:World→Prop) (l:Lim) (E:Int→Int→Prop):Gs:=⟨G,fun x H=>∃ (w p:Int) (ms:List M) (n:Int),x=faultA w p∧E w p∧H[0]? = some (.var (prs l ms n)),fun _=>none⟩
structure Mz (ms:List M):Prop where
 len:ms.length≤40000
 fin:∀ (a:Nat) (m:M),ms[a]? = some m→m.kind≠4→a + 1 < ms.length
 ne:ms≠[]
 txt:∀ m ∈ ms,m.kind=1↔m.text ∈ resv
theorem Mz.tail {m:M} {ms:List M} (h:Mz (m :: ms)) (hk:m.kind≠4):Mz ms:=by
 refine ⟨by have:=h.len; simp only [List.length_cons] at this; omega,fun a x hx hx4=>?_,fun e=>?_,fun x hx=>h.txt x (by simp [hx])⟩
 ·have:=h.fin (a + 1) x (by simpa using hx) hx4
  simp only [List.length_cons] at this; omega
 ·have:=h.fin 0 m rfl hk
  subst e
  simp at this
theorem Mz.cons {ms:List M} (h:Mz ms):∃ m r,ms=m :: r:=by
 cases ms with
 | nil=>exact absurd rfl h.ne
 | cons m r=>exact ⟨m,r,rfl⟩
theorem mksA_take (m:M) (ms:List M):(mksA (m :: ms)).take 4=mcells m:=by simp [mksA,mcells]
theorem mksA_drop (m:M) (ms:List M):(mksA (m :: ms)).drop 4=mksA ms:=by simp [mksA,mcells]
theorem mksA_all (ms:List M) (k:Nat) (h:ms.length * 4≤k):(mksA ms).take k=mksA ms:=List.take_of_length_le (by rw [mksA_len]; exact h)
section
variable {G:World→Prop} {l:Lim} {E:Int→Int→Prop}
theorem SC.prG {Gi:Gs} (hGi:∀ w,Gi.inv w→G w) {N:Nat} {F:Fr} {H:List Ob} {K:Fr→List Ob→Prop} {d:Option Nat} (hdN:∀ t,d=some t→t < N) {f:FuncId} {args:List Opd} (xs:List AV) (hx:evA F args=some xs) {ms:List M} {n:Int} {post:AV→List AV→Prop}
  (hi:(frzT H xs).1[0]? = some (.var (prs l ms n))) {ys:List AV} (hA:AM Tryz.prog (Gl G l E) f ys (prs l ms n) post) (hy:(frzT H xs).2.map (toO [0])=ys) (hp:∃ off,AV.ptr 0 off ∈ (frzT H xs).2) (hd:(frzT H xs).2.all (lentO [0])=true)
  (hpan:∀ (w p:Int) (ms':List M) (n':Int),E w p→Gi.pan (faultA w p) ((frzT H xs).1.set 0 (.var (prs l ms' n')))) (hkf:KeepF Gi.keep F)
  (hK:∀ x cs',cs'.all deep1=true→post x cs'→K (putF F d x) ((frzT H xs).1.set 0 (.var cs'))) {tg:Tag K}:SC Tryz.prog Gi N d f args F H K tg:=
 SC.lend1 hdN xs hx 0 (prs l ms n) hi (prs_deep _ _ _) (Gc:=Gl G l E) hGi (by rw [hy]; exact hA) hp hd (fun x os ⟨w,p,ms',n',e,hE,h0⟩=>⟨_,h0,prs_deep _ _ _,by rw [e]; exact hpan w p ms' n' hE⟩) hK hkf
theorem SC.pr {N:Nat} {F:Fr} {H:List Ob} {K:Fr→List Ob→Prop} {d:Option Nat} (hdN:∀ t,d=some t→t < N) {f:FuncId} {args:List Opd} (xs:List AV) (hx:evA F args=some xs) {ms:List M} {n:Int} {post:AV→List AV→Prop}
  (hi:(frzT H xs).1[0]? = some (.var (prs l ms n))) {ys:List AV} (hA:AM Tryz.prog (Gl G l E) f ys (prs l ms n) post) (hy:(frzT H xs).2.map (toO [0])=ys) (hp:∃ off,AV.ptr 0 off ∈ (frzT H xs).2) (hd:(frzT H xs).2.all (lentO [0])=true)
  (hK:∀ x cs',cs'.all deep1=true→post x cs'→K (putF F d x) ((frzT H xs).1.set 0 (.var cs'))) {tg:Tag K}:SC Tryz.prog (Gl G l E) N d f args F H K tg:=
 SC.prG (Gi:=Gl G l E) (E:=E) (fun _ h=>h) hdN xs hx hi hA hy hp hd (fun w p ms' n' hE=>⟨w,p,ms',n',rfl,hE,by rw [List.getElem?_set_self (List.getElem?_eq_some_iff.1 hi).1]⟩) (KeepF.none F) hK
theorem XC.prG {Gi:Gs} (hGi:∀ w,Gi.inv w→G w) {base:Nat} {qs:List Nat} {F:Fr} {H:List Ob} {K:Fr→List Ob→Prop} {d:Option Nat} {f:FuncId} {args:List Opd} (xs:List AV) (hx:evA F args=some xs) {ms:List M} {n:Int} {post:AV→List AV→Prop} (hb:0 < base) (hcov:coverQ qs F 0)
  (hi:H[0]? = some (.var (prs l ms n))) {ys:List AV} (hA:AM Tryz.prog (Gl G l E) f ys (prs l ms n) post) (hy:xs.map (toO [0])=ys) (hp:∃ off,AV.ptr 0 off ∈ xs) (hd:xs.all (lentO [0])=true)
  (hpan:∀ (w p:Int) (ms':List M) (n':Int),E w p→Gi.pan (faultA w p) (H.set 0 (.var (prs l ms' n'))))
  (hK:∀ x cs',cs'.all deep1=true→post x cs'→K (putF F d x) (H.set 0 (.var cs'))) {tg:Tag K}:XC Tryz.prog Gi base qs d f args F H K tg:=
 XC.lend1 xs hx 0 (prs l ms n) hb hcov hi (prs_deep _ _ _) (Gc:=Gl G l E) hGi (by rw [hy]; exact hA) hp hd (fun x os ⟨w,p,ms',n',e,hE,h0⟩=>⟨_,h0,prs_deep _ _ _,by rw [e]; exact hpan w p ms' n' hE⟩) hK
theorem XC.pr {base:Nat} {qs:List Nat} {F:Fr} {H:List Ob} {K:Fr→List Ob→Prop} {d:Option Nat} {f:FuncId} {args:List Opd} (xs:List AV) (hx:evA F args=some xs) {ms:List M} {n:Int} {post:AV→List AV→Prop} (hb:0 < base) (hcov:coverQ qs F 0)
  (hi:H[0]? = some (.var (prs l ms n))) {ys:List AV} (hA:AM Tryz.prog (Gl G l E) f ys (prs l ms n) post) (hy:xs.map (toO [0])=ys) (hp:∃ off,AV.ptr 0 off ∈ xs) (hd:xs.all (lentO [0])=true)
  (hK:∀ x cs',cs'.all deep1=true→post x cs'→K (putF F d x) (H.set 0 (.var cs'))) {tg:Tag K}:XC Tryz.prog (Gl G l E) base qs d f args F H K tg:=
 XC.prG (Gi:=Gl G l E) (E:=E) (fun _ h=>h) xs hx hb hcov hi hA hy hp hd (fun w p ms' n' hE=>⟨w,p,ms',n',rfl,hE,by rw [List.getElem?_set_self (List.getElem?_eq_some_iff.1 hi).1]⟩) hK
theorem lnext_ap (m:M) (ms:List M) (n:Int):AM Tryz.prog (Gl G l E) 44 [.ptr 0 0] (prs l (m :: ms) n) (fun x cs=>x=.agg (mcells m)∧cs=prs l (m :: ms) n):=by
 have hat:=mksA_take m ms
 have hvz:4≤(mksA (m :: ms)).length:=by rw [mksA_len,List.length_cons]; omega
 have hpos:(0:Int) < (ms.length:Int) + 1:=by omega
 refine AM.go hmix F_lnext (by simp) ?_
 simp -implicitDefEqProofs [c_lnext,finM,prs,hat,hvz,wrOb,splice,mcells,hpos]
theorem lgive_ap (m:M) (ms:List M) (n w:Int) (hE:E w m.pos):AM Tryz.prog (Gl G l E) 98 [.ptr 0 0,iv w] (prs l (m :: ms) n) (fun x cs=>False):=by
 refine AM.go hmix F_lgive (by simp) ?_
 simp -implicitDefEqProofs [c_lgive]
 refine SC.pr (by simp) [.ptr 0 0] (by simp) (ms:=m :: ms) (n:=n) (by simp) (lnext_ap m ms n) (by simp [toO]) ⟨0,by simp⟩ (by simp [lentO]) ?_ (tg:=.mk)
 rintro x cs - ⟨rfl,rfl⟩
 simp -implicitDefEqProofs [mcells,evP,fillA,splice,wrOb]
 exact ⟨w,m.pos,rfl,hE,m :: ms,n,rfl⟩
end
end Go.Proofs.YtgddkgbidhhheaaGreatDoor
set_option linter.unusedVariables false
set_option linter.unusedSimpArgs false
set_option maxRecDepth 100000
namespace Go.Proofs.YtgddkgbidhhheaaGreatDoor
open Go.RowKit Flo Ab Mk Pg
def SqL (l:Lim) (n:Int) (Q:Res→Prop) (vs:List Vl) (its:List It) (ms:List M):Prop:=Mz ms∧∀ r,P l (.seq n its ms) r→Q (Res.pre vs r)
section
variable {l:Lim} {n:Int} {Q:Res→Prop} {vs:List Vl} {is:List It} {m:M} {ms:List M}
theorem SqL.new {its:List It} (h:Mz ms):SqL l n (P l (.seq n its ms)) [] its ms:=⟨h,fun r hr=>hr⟩
theorem SqL.end (h:SqL l n Q vs [] ms):Q (.ok vs ms):=by
 have:=h.2 _ (.nil n _)
 rwa [pre_ok,List.append_nil] at this
theorem SqL.go {v:Vl} {i:It} {ms':List M} (h:SqL l n Q vs (i :: is) ms) (hz:Mz ms') (hs:∀ r,P l (.seq n is ms') r→P l (.seq n (i :: is) ms) (r.cons v)):SqL l n Q (vs++[v]) is ms':=
 ⟨hz,fun r hr=>by rw [pre_snoc]; exact h.2 _ (hs r hr)⟩
theorem SqL.bad {its:List It} {w p:Int} (h:SqL l n Q vs its ms) (hb:P l (.seq n its ms) (.bad w p)):Q (.bad w p):=by
 have:=h.2 _ hb
 rwa [pre_bad] at this
theorem SqL.w {s:List UInt8} (h:SqL l n Q vs (.w s :: is) (m :: ms)) (hq:isW m s=true):SqL l n Q (vs++[.u]) is ms:=h.go (h.1.tail (isW_kind hq).2.2) (fun r hr=>.w hq hr)
theorem SqL.wBad {s:List UInt8} (h:SqL l n Q vs (.w s :: is) (m :: ms)) (hq:isW m s=false):Q (.bad 21 m.pos):=h.bad (.wBad _ _ _ hq)
theorem SqL.nm (h:SqL l n Q vs (.nm :: is) (m :: ms)) (hk:m.kind=0):SqL l n Q (vs++[.nm m]) is ms:=h.go (h.1.tail (by omega)) (fun r hr=>.nm hk hr)
theorem SqL.nmBad (h:SqL l n Q vs (.nm :: is) (m :: ms)) (hk:m.kind≠0):Q (.bad 21 m.pos):=h.bad (.nmBad _ _ _ hk)
theorem SqL.cn {k most:Int} (h:SqL l n Q vs (.cn k most :: is) (m :: ms)) (hk:m.kind=0) (hm:k < most):SqL l n Q (vs++[.nm m]) is ms:=h.go (h.1.tail (by omega)) (fun r hr=>.cn hk hm hr)
theorem SqL.cnBad {k most:Int} (h:SqL l n Q vs (.cn k most :: is) (m :: ms)) (hk:m.kind≠0):Q (.bad 21 m.pos):=h.bad (.cnBad _ _ _ _ _ hk)
theorem SqL.cnBig {k most:Int} (h:SqL l n Q vs (.cn k most :: is) (m :: ms)) (hk:m.kind=0) (hm:most≤k):Q (.bad 22 m.pos):=h.bad (.cnBig _ _ _ hk hm)
theorem typ_kind {m:M} {t:Int} (h:typOf m=some t):m.kind≠4:=by
 unfold typOf at h
 split at h
 ·rename_i hq; exact (isW_kind hq).2.2
 ·split at h
  ·rename_i hq; exact (isW_kind hq).2.2
  ·split at h
   ·rename_i hq; exact (isW_kind hq).2.2
   ·cases h
theorem SqL.ty {t:Int} (h:SqL l n Q vs (.ty :: is) (m :: ms)) (ht:typOf m=some t):SqL l n Q (vs++[.ty t]) is ms:=h.go (h.1.tail (typ_kind ht)) (fun r hr=>.ty ht hr)
theorem SqL.tyBad (h:SqL l n Q vs (.ty :: is) (m :: ms)) (ht:typOf m=none):Q (.bad 21 m.pos):=h.bad (.tyBad _ _ _ ht)
theorem SqL.e {x:Ex} {ms':List M} (h:SqL l n Q vs (.e :: is) ms) (hx:P l (.expr n ms) (.ok [.e x] ms')) (hz:Mz ms'):SqL l n Q (vs++[.e x]) is ms':=h.go hz (fun r hr=>.e hx hr)
theorem SqL.eBad {w p:Int} (h:SqL l n Q vs (.e :: is) ms) (hx:P l (.expr n ms) (.bad w p)):Q (.bad w p):=h.bad (.eBad _ hx)
theorem SqL.ps {x:List Pm} {ms':List M} (h:SqL l n Q vs (.ps :: is) ms) (hx:P l (.pars [] ms) (.ok [.ps x] ms')) (hz:Mz ms'):SqL l n Q (vs++[.ps x]) is ms':=h.go hz (fun r hr=>.ps hx hr)
theorem SqL.psBad {w p:Int} (h:SqL l n Q vs (.ps :: is) ms) (hx:P l (.pars [] ms) (.bad w p)):Q (.bad w p):=h.bad (.psBad _ hx)
end
section
variable {G:World→Prop} {l:Lim} {E:Int→Int→Prop} {n:Int} {Q:Res→Prop} {vs:List Vl} {is:List It}
theorem mksA_full (ms:List M):(mksA ms).take (ms.length * 4)=mksA ms:=mksA_all ms _ (Nat.le_refl _)
theorem lstep_ap (m:M) (ms:List M) (n:Int):AM Tryz.prog (Gl G l E) 101 [.ptr 0 0] (prs l (m :: ms) n) (fun x cs=>x=.agg (mcells m)∧cs=prs l ms n):=by
 have hd:=mksA_drop m ms
 have hf:=mksA_full ms
 refine AM.go hmix F_lstep (by simp) ?_
 simp -implicitDefEqProofs [c_lstep]
 refine SC.pr (by simp) [.ptr 0 0] (by simp) (ms:=m :: ms) (n:=n) (by simp) (lnext_ap m ms n) (by simp [toO]) ⟨0,by simp⟩ (by simp [lentO]) ?_ (tg:=.mk)
 rintro x cs - ⟨rfl,rfl⟩
 have h1:(1:Int)≤(ms.length:Int) + 1:=by omega
 have h3:((ms.length:Int) + 1).toNat=ms.length + 1:=by omega
 simp -implicitDefEqProofs [prs,mcells,evP,fillA,splice,wrOb,finM,hd,hf,h1,h3]
theorem lsees_ap (s:List UInt8) (m:M) (ms:List M) (n:Int):AM Tryz.prog (Gl G l E) 100 [.ptr 0 0,sv s] (prs l (m :: ms) n) (fun x cs=>x=bv (isW m s)∧cs=prs l (m :: ms) n):=by
 refine AM.go hmix F_lsees (by simp) ?_
 simp -implicitDefEqProofs [c_lsees]
 refine SC.pr (by simp) [.ptr 0 0] (by simp) (ms:=m :: ms) (n:=n) (by simp) (lnext_ap m ms n) (by simp [toO]) ⟨0,by simp⟩ (by simp [lentO]) ?_ (tg:=.mk)
 rintro x cs - ⟨rfl,rfl⟩
 have hk1:(m.kind == 1)=decide ((m.kind:Int)=1):=by rw [Bool.eq_iff_iff]; simp; omega
 have hk3:(m.kind == 3)=decide ((m.kind:Int)=3):=by rw [Bool.eq_iff_iff]; simp; omega
 unfold isW
 rw [hk1,hk3]
 by_cases ht:m.text=s
 ·subst ht
  by_cases h1:(m.kind:Int)=1
  ·simp -implicitDefEqProofs [prs,mcells,wrOb,splice,finM,h1]
  ·by_cases h3:(m.kind:Int)=3
   ·simp -implicitDefEqProofs [prs,mcells,wrOb,splice,finM,h1,h3]
   ·simp -implicitDefEqProofs [prs,mcells,wrOb,splice,finM,h1,h3]
 ·have ht':(m.text == s)=false:=beq_eq_false_iff_ne.2 ht
  simp -implicitDefEqProofs [prs,mcells,wrOb,splice,finM,ht,ht']
theorem lmay_ap (s:List UInt8) (m:M) (ms:List M) (n:Int):AM Tryz.prog (Gl G l E) 67 [.ptr 0 0,sv s] (prs l (m :: ms) n) (fun x cs=>x=bv (isW m s)∧cs=prs l (if isW m s=true then ms else m :: ms) n):=by
 have hs:=lsees_ap (G:=G) (l:=l) (E:=E) s m ms n
 obtain ⟨q,hq⟩:∃ q,isW m s=q:=⟨_,rfl⟩
 rw [hq] at hs ⊢
 refine AM.go hmix F_lmay (by simp) ?_
 simp -implicitDefEqProofs [c_lmay]
 refine SC.pr (by simp) [.ptr 0 0,sv s] (by simp) (ms:=m :: ms) (n:=n) (by simp) (hs) (by simp [toO]) ⟨0,by simp⟩ (by simp [lentO]) ?_ (tg:=.mk)
 rintro x cs - ⟨rfl,rfl⟩
 cases q
 ·simp -implicitDefEqProofs [finM,prs]
 ·simp -implicitDefEqProofs
  refine SC.pr (by simp) [.ptr 0 0] (by simp) (ms:=m :: ms) (n:=n) (by simp) (lstep_ap m ms n) (by simp [toO]) ⟨0,by simp⟩ (by simp [lentO]) ?_ (tg:=.mk)
  rintro x cs - ⟨rfl,rfl⟩
  simp -implicitDefEqProofs [finM,prs]
theorem lname_sq {ms:List M} (h:SqL l n Q vs (.nm :: is) ms) (hE:∀ w p,Q (.bad w p)→E w p):AM Tryz.prog (Gl G l E) 99 [.ptr 0 0] (prs l ms n)
  (fun x cs=>∃ m ms',x=.agg (mcells m)∧cs=prs l ms' n∧SqL l n Q (vs++[.nm m]) is ms'∧ms'.length < ms.length):=by
 obtain ⟨m,r,rfl⟩:=h.1.cons
 refine AM.go hmix F_lname (by simp) ?_
 simp -implicitDefEqProofs [c_lname]
 refine SC.pr (by simp) [.ptr 0 0] (by simp) (ms:=m :: r) (n:=n) (by simp) (lnext_ap m r n) (by simp [toO]) ⟨0,by simp⟩ (by simp [lentO]) ?_ (tg:=.mk)
 rintro x cs - ⟨rfl,rfl⟩
 by_cases hk:m.kind=0
 ·have hk':(m.kind:Int)=0:=by omega
  simp -implicitDefEqProofs [mcells,hk']
  refine SC.pr (by simp) [.ptr 0 0] (by simp) (ms:=m :: r) (n:=n) (by simp) (lstep_ap m r n) (by simp [toO]) ⟨0,by simp⟩ (by simp [lentO]) ?_ (tg:=.mk)
  rintro x cs - ⟨rfl,rfl⟩
  simp -implicitDefEqProofs [mcells,hk',wrOb,splice,finM]
  exact ⟨by simp [prs],m,⟨by simp [hk'],by simp,by simp,by simp⟩,r,rfl,h.nm hk,by simp⟩
 ·have hk':¬ (m.kind:Int)=0:=by omega
  simp -implicitDefEqProofs [mcells,hk',hk]
  refine SC.pr (by simp) [.ptr 0 0,iv 21] (by simp) (ms:=m :: r) (n:=n) (by simp) (lgive_ap m r n 21 (hE _ _ (h.nmBad hk))) (by simp [toO]) ⟨0,by simp⟩ (by simp [lentO]) ?_ (tg:=.mk)
  rintro x cs - hf
  exact hf.elim
end
end Go.Proofs.YtgddkgbidhhheaaGreatDoor
set_option linter.unusedVariables false
set_option linter.unusedSimpArgs false
set_option maxRecDepth 100000
namespace Go.Proofs.YtgddkgbidhhheaaGreatDoor
open Go.RowKit Flo Ab Mk Pg
section
variable {G:World→Prop} {l:Lim} {E:Int→Int→Prop} {n:Int} {Q:Res→Prop} {vs:List Vl} {is:List It}
theorem lcounted_sq {k most:Int} {ms:List M} (h:SqL l n Q vs (.cn k most :: is) ms) (hE:∀ w p,Q (.bad w p)→E w p):AM Tryz.prog (Gl G l E) 65 [.ptr 0 0,iv k,iv most] (prs l ms n)
  (fun x cs=>∃ m ms',x=.agg (mcells m)∧cs=prs l ms' n∧SqL l n Q (vs++[.nm m]) is ms'∧ms'.length < ms.length):=by
 obtain ⟨m,r,rfl⟩:=h.1.cons
 have hname:∀ hc:(m.kind=0→k < most),AM Tryz.prog (Gl G l E) 99 [.ptr 0 0] (prs l (m :: r) n) (fun x cs=>∃ m' ms',x=.agg (mcells m')∧cs=prs l ms' n∧SqL l n Q (vs++[.nm m']) is ms'∧ms'.length < (m :: r).length):=fun hc=>by
  have hS:SqL l n (fun r0=>match r0 with | .ok [.nm m'] ms'=>m'=m∧ms'=r∧m.kind=0 | .bad w p=>Q (.bad w p) | _=>False) [] [.nm] (m :: r):=by
   refine ⟨h.1,fun r0 hr0=>?_⟩
   cases hr0 with
   | nm hk hr=>cases hr; exact ⟨rfl,rfl,hk⟩
   | nmBad _ _ _ hk=>exact h.cnBad hk
  refine AM.mono (lname_sq hS (fun w p hq=>hE w p hq)) ?_
  rintro x cs ⟨m',ms',rfl,rfl,hS',hlt⟩
  obtain ⟨rfl,rfl,hk⟩:=hS'.end
  exact ⟨m',ms',rfl,rfl,h.cn hk (hc hk),hlt⟩
 refine AM.go hmix F_lcounted (by simp) ?_
 simp -implicitDefEqProofs [c_lcounted]
 refine SC.pr (by simp) [.ptr 0 0] (by simp) (ms:=m :: r) (n:=n) (by simp) (lnext_ap m r n) (by simp [toO]) ⟨0,by simp⟩ (by simp [lentO]) ?_ (tg:=.mk)
 rintro x cs - ⟨rfl,rfl⟩
 by_cases hk:m.kind=0
 ·have hk':(m.kind:Int)=0:=by omega
  by_cases hm:most≤k
  ·simp -implicitDefEqProofs [mcells,hk',hk,hm]
   refine SC.pr (by simp) [.ptr 0 0,iv 22] (by simp) (ms:=m :: r) (n:=n) (by simp) (lgive_ap m r n 22 (hE _ _ (h.cnBig hk hm))) (by simp [toO]) ⟨0,by simp⟩ (by simp [lentO]) ?_ (tg:=.mk)
   rintro x cs - hf
   exact hf.elim
  ·simp -implicitDefEqProofs [mcells,hk',hk,hm]
   refine SC.pr (by simp) [.ptr 0 0] (by simp) (ms:=m :: r) (n:=n) (by simp) (hname (fun _=>by omega)) (by simp [toO]) ⟨0,by simp⟩ (by simp [lentO]) ?_ (tg:=.mk)
   rintro x cs - ⟨m',ms',rfl,rfl,hS',hlt⟩
   simp -implicitDefEqProofs [mcells,wrOb,splice,finM]
   exact ⟨by simp [prs],m',⟨by simp,by simp,by simp,by simp⟩,ms',rfl,hS',by simpa using hlt⟩
 ·have hk':¬ (m.kind:Int)=0:=by omega
  simp -implicitDefEqProofs [mcells,hk',hk]
  refine SC.pr (by simp) [.ptr 0 0] (by simp) (ms:=m :: r) (n:=n) (by simp) (hname (fun h0=>absurd h0 hk)) (by simp [toO]) ⟨0,by simp⟩ (by simp [lentO]) ?_ (tg:=.mk)
  rintro x cs - ⟨m',ms',rfl,rfl,hS',hlt⟩
  simp -implicitDefEqProofs [mcells,wrOb,splice,finM]
  exact ⟨by simp [prs],m',⟨by simp,by simp,by simp,by simp⟩,ms',rfl,hS',by simpa using hlt⟩
structure LtI (l:Lim) (m:M) (r:List M) (n:Int) (g:Nat) (F:Fr) (H:List Ob):Prop where
 k:∃ j:Nat,j≤3∧g=3 - j∧F 7=some (iv j)∧(1≤j→isW m tN=false)∧(2≤j→isW m tB=false)∧(3≤j→isW m tL=false)
 f0:F 0=some (.ptr 0 0)
 f5:F 5=some (.row 1)
 f6:F 6=some (iv 3)
 hH:H=[.var (prs l (m :: r) n),.own 9 1 3 [sv tN,sv tB,sv tL]]
theorem ltyp_sq {ms:List M} (h:SqL l n Q vs (.ty :: is) ms) (hE:∀ w p,Q (.bad w p)→E w p):AM Tryz.prog (Gl G l E) 68 [.ptr 0 0] (prs l ms n)
  (fun x cs=>∃ t ms',x=iv t∧cs=prs l ms' n∧SqL l n Q (vs++[.ty t]) is ms'∧ms'.length < ms.length):=by
 obtain ⟨m,r,rfl⟩:=h.1.cons
 refine AM.go hmix F_ltyp (by simp) ?_
 simp -implicitDefEqProofs [c_ltyp,evP,fillA,splice]
 refine LP.go (LtI l m r n) 3 ⟨⟨0,by simp,rfl,by simp,by simp,by simp,by simp⟩,by simp,by simp,by simp,by simp⟩ ?_
 unfold c_ltyp_L0
 rintro g F H ⟨⟨j,hj,rfl,h7,hN,hB,hL⟩,h0,h5,h6,rfl⟩
 have hcase:j=0∨j=1∨j=2∨j=3:=by omega
 rcases hcase with rfl | rfl | rfl | rfl
 ·obtain ⟨q,hq⟩:∃ q,isW m tN=q:=⟨_,rfl⟩
  have hmay:=lmay_ap (G:=G) (l:=l) (E:=E) tN m r n
  rw [hq] at hmay
  simp -implicitDefEqProofs [h0,h5,h6,h7]
  refine SC.pr (by simp) [.ptr 0 0,sv tN] (by simp) (ms:=m :: r) (n:=n) (by simp -implicitDefEqProofs [h0,h5,h6,h7]) (hmay) (by simp [toO,h0,h5,h6,h7]) ⟨0,by simp [h0,h5,h6,h7]⟩ (by simp [lentO,h0,h5,h6,h7]) ?_ (tg:=.mk)
  rintro x cs - ⟨rfl,rfl⟩
  cases q
  ·simp -implicitDefEqProofs [h0,h5,h6,h7,prs]
   exact ⟨2,by omega,⟨⟨1,by omega,rfl,by simp [show IntKind.i64.wrap 1=1 by decide,show IntKind.i64.wrap 2=2 by decide,show IntKind.i64.wrap 3=3 by decide],fun _=>hq,by simp,by simp⟩,by simp [h0],by simp [h5],by simp [h6],by simp [prs]⟩⟩
  ·simp -implicitDefEqProofs [h0,h5,h6,h7,finM,show IntKind.i64.wrap 1=1 by decide,show IntKind.i64.wrap 2=2 by decide,show IntKind.i64.wrap 3=3 by decide]
   exact ⟨by simp [prs],r,rfl,h.ty (by unfold typOf; rw [if_pos hq]),by simp⟩
 ·obtain ⟨q,hq⟩:∃ q,isW m tB=q:=⟨_,rfl⟩
  have hmay:=lmay_ap (G:=G) (l:=l) (E:=E) tB m r n
  rw [hq] at hmay
  simp -implicitDefEqProofs [h0,h5,h6,h7]
  refine SC.pr (by simp) [.ptr 0 0,sv tB] (by simp) (ms:=m :: r) (n:=n) (by simp -implicitDefEqProofs [h0,h5,h6,h7]) (hmay) (by simp [toO,h0,h5,h6,h7]) ⟨0,by simp [h0,h5,h6,h7]⟩ (by simp [lentO,h0,h5,h6,h7]) ?_ (tg:=.mk)
  rintro x cs - ⟨rfl,rfl⟩
  cases q
  ·simp -implicitDefEqProofs [h0,h5,h6,h7,prs]
   exact ⟨1,by omega,⟨⟨2,by omega,rfl,by simp [show IntKind.i64.wrap 1=1 by decide,show IntKind.i64.wrap 2=2 by decide,show IntKind.i64.wrap 3=3 by decide],fun _=>hN (by omega),fun _=>hq,by simp⟩,by simp [h0],by simp [h5],by simp [h6],by simp [prs]⟩⟩
  ·simp -implicitDefEqProofs [h0,h5,h6,h7,finM,show IntKind.i64.wrap 1=1 by decide,show IntKind.i64.wrap 2=2 by decide,show IntKind.i64.wrap 3=3 by decide]
   exact ⟨by simp [prs],r,rfl,h.ty (by unfold typOf; rw [hN (by omega),if_neg (by simp),if_pos hq]),by simp⟩
 ·obtain ⟨q,hq⟩:∃ q,isW m tL=q:=⟨_,rfl⟩
  have hmay:=lmay_ap (G:=G) (l:=l) (E:=E) tL m r n
  rw [hq] at hmay
  simp -implicitDefEqProofs [h0,h5,h6,h7]
  refine SC.pr (by simp) [.ptr 0 0,sv tL] (by simp) (ms:=m :: r) (n:=n) (by simp -implicitDefEqProofs [h0,h5,h6,h7]) (hmay) (by simp [toO,h0,h5,h6,h7]) ⟨0,by simp [h0,h5,h6,h7]⟩ (by simp [lentO,h0,h5,h6,h7]) ?_ (tg:=.mk)
  rintro x cs - ⟨rfl,rfl⟩
  cases q
  ·simp -implicitDefEqProofs [h0,h5,h6,h7,prs]
   exact ⟨⟨3,by omega,rfl,by simp [show IntKind.i64.wrap 1=1 by decide,show IntKind.i64.wrap 2=2 by decide,show IntKind.i64.wrap 3=3 by decide],fun _=>hN (by omega),fun _=>hB (by omega),fun _=>hq⟩,by simp [h0],by simp [h5],by simp [h6],by simp [prs]⟩
  ·simp -implicitDefEqProofs [h0,h5,h6,h7,finM,show IntKind.i64.wrap 1=1 by decide,show IntKind.i64.wrap 2=2 by decide,show IntKind.i64.wrap 3=3 by decide]
   exact ⟨by simp [prs],r,rfl,h.ty (by unfold typOf; rw [hN (by omega),hB (by omega),if_neg (by simp),if_neg (by simp),if_pos hq]),by simp⟩
 ·simp -implicitDefEqProofs [h0,h5,h6,h7]
  refine SC.pr (by simp) [.ptr 0 0,iv 21] (by simp) (ms:=m :: r) (n:=n) (by simp -implicitDefEqProofs [h0]) (lgive_ap m r n 21 (hE _ _ (h.tyBad (by unfold typOf; rw [hN (by omega),hB (by omega),hL (by omega)]; rfl)))) (by simp [toO,h0]) ⟨0,by simp [h0]⟩ (by simp [lentO,h0]) ?_ (tg:=.mk)
  rintro x cs - hf
  exact hf.elim
end
end Go.Proofs.YtgddkgbidhhheaaGreatDoor
set_option linter.unusedVariables false
set_option linter.unusedSimpArgs false
set_option maxRecDepth 100000
namespace Go.Proofs.YtgddkgbidhhheaaGreatDoor
open Go.RowKit Flo Ab Mk Pg
section
variable {G:World→Prop} {all:List M} {l:Lim} {b:Nat} {n:Int}
theorem exsA_len (us:List Ex):(exsA us).length=us.length * 7:=by
 induction us with
 | nil=>rfl
 | cons e r ih=>obtain ⟨o,nm,tl,ty,num,args,pos⟩:=e; rw [exsA,List.length_append,ih]; simp [Ex.cells]; omega
theorem exsA_snoc (us:List Ex) (e:Ex):exsA (us++[e])=exsA us++e.cells:=by
 induction us with
 | nil=>simp [exsA]
 | cons u r ih=>rw [List.cons_append,exsA,ih,exsA,List.append_assoc]
theorem set_same {α:Type} {H:List α} {i:Nat} {o:α} (h:H[i]? = some o):H.set i o=H:=by
 apply List.ext_getElem?
 intro k
 by_cases hk:i=k
 ·subst hk
  rw [List.getElem?_set_self (List.getElem?_eq_some_iff.1 h).1,h]
 ·rw [List.getElem?_set_ne hk]
end
end Go.Proofs.YtgddkgbidhhheaaGreatDoor
set_option linter.unusedVariables false
set_option linter.unusedSimpArgs false
set_option maxRecDepth 100000
namespace Go.Proofs.YtgddkgbidhhheaaGreatDoor
open Go.RowKit Flo Ab Mk Pg
section
variable {G:World→Prop} {all:List M} {l:Lim} {b:Nat} {n:Int}
theorem isW_of {m:M} {s:List UInt8} (hk:m.kind=1) (ht:m.text=s):isW m s=true:=by unfold isW; rw [hk,ht]; simp
theorem isW_not {m:M} {s:List UInt8} (ht:m.text≠s):isW m s=false:=by
 unfold isW
 rw [beq_eq_false_iff_ne.2 ht,Bool.and_false]
end
end Go.Proofs.YtgddkgbidhhheaaGreatDoor
