/- Texts joined: Pra Prb Prc. -/
import Derived.Test.YtgddkgbidhhheaaGreatDoorKtaq
import Derived.Test.YtgddkgbidhhheaaGreatDoorKtar
import Derived.Test.YtgddkgbidhhheaaGreatDoorKtas
set_option linter.unusedVariables false
set_option linter.unusedSimpArgs false
set_option maxRecDepth 100000
namespace Go.Proofs.YtgddkgbidhhheaaGreatDoor
open Go.RowKit Flo Ab Mk Pg
def mcells (m:M):List AV:=[iv m.kind,sv m.text,cv (W m.num.1) (W m.num.2),iv m.pos]
def mksA (ms:List M):List AV:=ms.flatMap mcells
theorem mksA_len (ms:List M):(mksA ms).length=ms.length * 4:=by
 unfold mksA
 induction ms with
 | nil=>rfl
 | cons v vs ih=>rw [List.flatMap_cons,List.length_append,ih]; simp [mcells]; omega
theorem mksA_at:∀ {ms:List M} {k:Nat} {m:M},ms[k]? = some m→((mksA ms).drop (k * 4)).take 4=mcells m
 | [],k,v,h=>by simp at h
 | u :: vs,0,v,h=>by cases h; simp [mksA,mcells]
 | u :: vs,k + 1,v,h=>by
  have:=mksA_at (ms:=vs) (k:=k) (m:=v) (by simpa using h)
  have e:mksA (u :: vs)=mcells u++mksA vs:=rfl
  rw [e,show (k + 1) * 4=(mcells u).length + k * 4 by simp [mcells]; omega,← List.drop_drop,List.drop_left]
  exact this
mutual
def _root_.Go.Proofs.YtgddkgbidhhheaaGreatDoor.Pg.Ex.cells:Ex→List AV
 | .mk op name tail ty num args pos=>[iv op,sv name,sv tail,iv ty,cv (W num.1) (W num.2),.sl args.length (exsA args),iv pos]
def exsA:List Ex→List AV
 | []=>[]
 | e :: r=>e.cells++exsA r
end
def exA (e:Ex):AV:=.agg e.cells
def rdr (all:List M) (l:Lim) (a:Nat) (why wh n:Int):List AV:=[.sl all.length (mksA all),iv a,iv why,iv wh,iv l.text,iv l.funcs,iv l.arity,iv l.nest,iv n]
section
variable {G:World→Prop}
theorem rnext_ap (all:List M) (l:Lim) (a:Nat) (why wh n:Int) {m:M} (h:all[a]? = some m):AM Tryz.prog G 48 [.ptr 0 0] (rdr all l a why wh n) (fun x cs=>x=.agg (mcells m)∧cs=rdr all l a why wh n):=by
 have hat:=mksA_at h
 have hal:a < all.length:=(List.getElem?_eq_some_iff.1 h).1
 have hal':(a:Int) < all.length:=by omega
 have hvz:a * 4 + 4≤(mksA all).length:=by rw [mksA_len]; omega
 refine AM.go hmix F_pnext (by simp) ?_
 simp -implicitDefEqProofs [c_pnext,finM,rdr,hal,hal',hat,hvz,wrOb,splice,mcells]
theorem rdr_deep (all:List M) (l:Lim) (a:Nat) (why wh n:Int):(rdr all l a why wh n).all deep1=true:=rfl
theorem SC.rd {N:Nat} {F:Fr} {H:List Ob} {K:Fr→List Ob→Prop} {d:Option Nat} (hdN:∀ t,d=some t→t < N) {f:FuncId} {args:List Opd} (xs:List AV) (hx:evA F args=some xs) {all:List M} {l:Lim} {a:Nat} {why wh n:Int} {post:AV→List AV→Prop}
  (hi:(frzT H xs).1[0]? = some (.var (rdr all l a why wh n))) {ys:List AV} (hA:AM Tryz.prog G f ys (rdr all l a why wh n) post) (hy:(frzT H xs).2.map (toO [0])=ys) (hp:∃ off,AV.ptr 0 off ∈ (frzT H xs).2) (hd:(frzT H xs).2.all (lentO [0])=true)
  (hK:∀ x cs',cs'.all deep1=true→post x cs'→K (putF F d x) ((frzT H xs).1.set 0 (.var cs'))) {tg:Tag K}:SC Tryz.prog G N d f args F H K tg:=
 SC.lent hdN xs hx 0 (rdr all l a why wh n) hi (rdr_deep _ _ _ _ _ _) (by rw [hy]; exact hA) hp hd hK
theorem rfail_ap (all:List M) (l:Lim) (a:Nat) (why wh n w:Int) {m:M} (h:all[a]? = some m):AM Tryz.prog G 76 [.ptr 0 0,iv w] (rdr all l a why wh n) (fun x cs=>x=.tup []∧cs=if why=0 then rdr all l a w m.pos n else rdr all l a why wh n):=by
 refine AM.go hmix F_pfail (by simp) ?_
 by_cases hw:why=0
 ·subst hw
  simp -implicitDefEqProofs [c_pfail,rdr,wrOb,splice]
  refine SC.rd (by simp) [.ptr 0 0] (by simp) (all:=all) (l:=l) (a:=a) (why:=w) (wh:=wh) (n:=n) (by simp [rdr]) (rnext_ap all l a w wh n h) (by simp [toO]) ⟨0,by simp⟩ (by simp [lentO]) ?_ (tg:=.mk)
  rintro x cs - ⟨rfl,rfl⟩
  simp -implicitDefEqProofs [rdr,mcells,wrOb,splice,finM]
 ·simp -implicitDefEqProofs [c_pfail,rdr,hw,finM]
theorem ris_ap (all:List M) (l:Lim) (a:Nat) (why wh n:Int) (s:List UInt8) {m:M} (h:all[a]? = some m):AM Tryz.prog G 79 [.ptr 0 0,sv s] (rdr all l a why wh n) (fun x cs=>x=bv (decide (why=0) && isW m s)∧cs=rdr all l a why wh n):=by
 refine AM.go hmix F_pis (by simp) ?_
 simp -implicitDefEqProofs [c_pis]
 refine SC.rd (by simp) [.ptr 0 0] (by simp) (all:=all) (l:=l) (a:=a) (why:=why) (wh:=wh) (n:=n) (by simp) (rnext_ap all l a why wh n h) (by simp [toO]) ⟨0,by simp⟩ (by simp [lentO]) ?_ (tg:=.mk)
 rintro x cs - ⟨rfl,rfl⟩
 have hk1:(m.kind == 1)=decide ((m.kind:Int)=1):=by rw [Bool.eq_iff_iff]; simp; omega
 have hk3:(m.kind == 3)=decide ((m.kind:Int)=3):=by rw [Bool.eq_iff_iff]; simp; omega
 unfold isW
 rw [hk1,hk3]
 by_cases hw:why=0
 ·subst hw
  by_cases h1:(m.kind:Int)=1
  ·simp -implicitDefEqProofs [rdr,mcells,wrOb,splice,finM,h1]
  ·by_cases h3:(m.kind:Int)=3
   ·simp -implicitDefEqProofs [rdr,mcells,wrOb,splice,finM,h1,h3]
   ·simp -implicitDefEqProofs [rdr,mcells,wrOb,splice,finM,h1,h3]
 ·simp -implicitDefEqProofs [rdr,mcells,wrOb,splice,finM,hw]
theorem rtake_ap (all:List M) (l:Lim) (a:Nat) (why wh n:Int) (s:List UInt8) {m:M} (h:all[a]? = some m) (ha:a < 1000000000):AM Tryz.prog G 110 [.ptr 0 0,sv s] (rdr all l a why wh n)
  (fun x cs=>x=bv (decide (why=0) && isW m s)∧cs=rdr all l (if (decide (why=0) && isW m s)=true then a + 1 else a) why wh n):=by
 have hw:IntKind.i64.wrap ((a:Int) + 1)=((a + 1:Nat):Int):=by rw [wrap64 _ (by omega)]; omega
 have his:=ris_ap (G:=G) all l a why wh n s h
 obtain ⟨q,hq⟩:∃ q,(decide (why=0) && isW m s)=q:=⟨_,rfl⟩
 rw [hq] at his ⊢
 refine AM.go hmix F_ptake (by simp) ?_
 simp -implicitDefEqProofs [c_ptake]
 refine SC.rd (by simp) [.ptr 0 0,sv s] (by simp) (all:=all) (l:=l) (a:=a) (why:=why) (wh:=wh) (n:=n) (by simp) his (by simp [toO]) ⟨0,by simp⟩ (by simp [lentO]) ?_ (tg:=.mk)
 rintro x cs - ⟨rfl,rfl⟩
 cases q
 ·simp -implicitDefEqProofs [rdr,finM]
 ·simp -implicitDefEqProofs [rdr,finM,wrOb,splice,hw,-Int.natCast_add]
def wantS (m:M) (s:List UInt8) (a:Nat) (why wh n:Int) (all:List M) (l:Lim):List AV:=if why=0 then (if isW m s=true then rdr all l (a + 1) why wh n else rdr all l a 21 m.pos n) else rdr all l a why wh n
theorem rwant_ap (all:List M) (l:Lim) (a:Nat) (why wh n:Int) (s:List UInt8) {m:M} (h:all[a]? = some m) (ha:a < 1000000000):AM Tryz.prog G 78 [.ptr 0 0,sv s] (rdr all l a why wh n)
  (fun x cs=>x=.tup []∧cs=wantS m s a why wh n all l):=by
 refine AM.go hmix F_pwant (by simp) ?_
 simp -implicitDefEqProofs [c_pwant]
 refine SC.rd (by simp) [.ptr 0 0,sv s] (by simp) (all:=all) (l:=l) (a:=a) (why:=why) (wh:=wh) (n:=n) (by simp) (rtake_ap all l a why wh n s h ha) (by simp [toO]) ⟨0,by simp⟩ (by simp [lentO]) ?_ (tg:=.mk)
 rintro x cs - ⟨rfl,rfl⟩
 unfold wantS
 by_cases hw:why=0
 ·subst hw
  cases hq:isW m s
  ·simp -implicitDefEqProofs [finM]
   refine SC.rd (by simp) [.ptr 0 0,iv 21] (by simp) (all:=all) (l:=l) (a:=a) (why:=0) (wh:=wh) (n:=n) (by simp) (rfail_ap all l a 0 wh n 21 h) (by simp [toO]) ⟨0,by simp⟩ (by simp [lentO]) ?_ (tg:=.mk)
   rintro x cs - ⟨rfl,rfl⟩
   simp -implicitDefEqProofs [finM,rdr]
  ·simp -implicitDefEqProofs [finM,rdr]
 ·simp -implicitDefEqProofs [finM,hw]
  refine SC.rd (by simp) [.ptr 0 0,iv 21] (by simp) (all:=all) (l:=l) (a:=a) (why:=why) (wh:=wh) (n:=n) (by simp) (rfail_ap all l a why wh n 21 h) (by simp [toO]) ⟨0,by simp⟩ (by simp [lentO]) ?_ (tg:=.mk)
  rintro x cs - ⟨rfl,rfl⟩
  simp -implicitDefEqProofs [finM,rdr,hw]
def zeroM:M:=⟨0,[],(0,0),0⟩
theorem zeroM_cells:mcells zeroM=[iv 0,sv [],cv 0 0,iv 0]:=by simp [mcells,zeroM,W0]
theorem rname_ap (all:List M) (l:Lim) (a:Nat) (why wh n:Int) {m:M} (h:all[a]? = some m) (ha:a < 1000000000):AM Tryz.prog G 77 [.ptr 0 0] (rdr all l a why wh n)
  (fun x cs=>if why=0 then (if m.kind=0 then x=.agg (mcells m)∧cs=rdr all l (a + 1) why wh n else x=.agg (mcells zeroM)∧cs=rdr all l a 21 m.pos n) else x=.agg (mcells zeroM)∧cs=rdr all l a why wh n):=by
 have hw1:IntKind.i64.wrap ((a:Int) + 1)=((a + 1:Nat):Int):=by rw [wrap64 _ (by omega)]; omega
 refine AM.go hmix F_pname (by simp) ?_
 rw [zeroM_cells]
 simp -implicitDefEqProofs [c_pname]
 refine SC.rd (by simp) [.ptr 0 0] (by simp) (all:=all) (l:=l) (a:=a) (why:=why) (wh:=wh) (n:=n) (by simp) (rnext_ap all l a why wh n h) (by simp [toO]) ⟨0,by simp⟩ (by simp [lentO]) ?_ (tg:=.mk)
 rintro x cs - ⟨rfl,rfl⟩
 have hfail:=fun why'=>rfail_ap (G:=G) all l a why' wh n 21 h
 by_cases hw:why=0
 ·subst hw
  by_cases h0:m.kind=0
  ·have h0':(m.kind:Int)=0:=by omega
   simp -implicitDefEqProofs [rdr,mcells,wrOb,splice,finM,h0,h0',hw1,-Int.natCast_add]
  ·have h0':¬ (m.kind:Int)=0:=by omega
   simp -implicitDefEqProofs [rdr,mcells,wrOb,splice,finM,h0,h0']
   refine SC.rd (by simp) [.ptr 0 0,iv 21] (by simp) (all:=all) (l:=l) (a:=a) (why:=0) (wh:=wh) (n:=n) (by simp [rdr]) (hfail 0) (by simp [toO]) ⟨0,by simp⟩ (by simp [lentO]) ?_ (tg:=.mk)
   rintro x cs - ⟨rfl,rfl⟩
   simp -implicitDefEqProofs [rdr,finM,wrOb,splice,evP,fillA,h0]
 ·simp -implicitDefEqProofs [rdr,mcells,wrOb,splice,finM,hw]
  refine SC.rd (by simp) [.ptr 0 0,iv 21] (by simp) (all:=all) (l:=l) (a:=a) (why:=why) (wh:=wh) (n:=n) (by simp [rdr]) (hfail why) (by simp [toO]) ⟨0,by simp⟩ (by simp [lentO]) ?_ (tg:=.mk)
  rintro x cs - ⟨rfl,rfl⟩
  simp -implicitDefEqProofs [rdr,finM,wrOb,splice,evP,fillA,hw]
def TyI (all:List M) (l:Lim) (a:Nat) (why wh n:Int) (m:M) (g:Nat) (F:Fr) (H:List Ob):Prop:=∃ (k r:Nat),k + g=3∧0 < r∧F 0=some (.ptr 0 0)∧F 3=some (.row r)∧F 4=some (iv k)∧H[0]? = some (.var (rdr all l a why wh n))∧H[r]? = some (.own 9 1 3 [sv tN,sv tB,sv tL]) ∧
 (0 < k→(decide (why=0) && isW m tN)=false)∧(1 < k→(decide (why=0) && isW m tB)=false)∧(2 < k→(decide (why=0) && isW m tL)=false)
theorem rtyp_ap (all:List M) (l:Lim) (a:Nat) (why wh n:Int) {m:M} (h:all[a]? = some m) (ha:a < 1000000000):AM Tryz.prog G 80 [.ptr 0 0] (rdr all l a why wh n)
  (fun x cs=>if why=0 then (match typOf m with | some t=>x=iv t∧cs=rdr all l (a + 1) why wh n | none=>x=iv 0∧cs=rdr all l a 21 m.pos n) else x=iv 0∧cs=rdr all l a why wh n):=by
 refine AM.go hmix F_ptyp (by simp) ?_
 simp -implicitDefEqProofs [c_ptyp,evP,fillA,splice]
 refine LP.go (TyI all l a why wh n m) 3 ⟨0,1,by omega,by omega,by simp,by simp,by simp,by simp,by simp,by simp,by simp,by simp⟩ ?_
 unfold c_ptyp_L0
 rintro g F H ⟨k,r,hk,hr0,f0,f3,f4,h0,hr,n0,n1,n2⟩
 have htake:=fun s=>rtake_ap (G:=G) all l a why wh n s h ha
 have hl0:0 < H.length:=(List.getElem?_eq_some_iff.1 h0).1
 have step:∀ (s:List UInt8) (t:Int) (j:Nat),k=j→j < 3→(decide (why=0) && isW m s)=true→typOf m=some t→t=(j:Int) + 1→True:=fun _ _ _ _ _ _ _ _=>trivial
 match k,hk with
 | 0,hk=>
  simp -implicitDefEqProofs [f0,f3,f4,hr]
  refine SC.rd (by simp) [.ptr 0 0,sv tN] (by simp) (all:=all) (l:=l) (a:=a) (why:=why) (wh:=wh) (n:=n) (by simpa using h0) (htake tN) (by simp [toO]) ⟨0,by simp⟩ (by simp [lentO]) ?_ (tg:=.mk)
  rintro x cs - ⟨rfl,rfl⟩
  cases hq:(decide (why=0) && isW m tN)
  ·simp -implicitDefEqProofs [f4]
   refine ⟨g - 1,by omega,1,r,by omega,hr0,by simp [f0],by simp [f3],by simp [wrap64 1 (by omega)],?_,?_,fun _=>hq,by omega,by omega⟩
   ·rw [List.getElem?_set_self hl0]
   ·rw [List.getElem?_set_ne (by omega)]; exact hr
  ·simp only [Bool.and_eq_true,decide_eq_true_eq] at hq
   have ht:typOf m=some 1:=by unfold typOf; rw [if_pos hq.2]
   simp -implicitDefEqProofs [f4,hq.1,ht,finM,hl0,rdr,wrap64 1 (by omega)]
 | 1,hk=>
  simp -implicitDefEqProofs [f0,f3,f4,hr]
  refine SC.rd (by simp) [.ptr 0 0,sv tB] (by simp) (all:=all) (l:=l) (a:=a) (why:=why) (wh:=wh) (n:=n) (by simpa using h0) (htake tB) (by simp [toO]) ⟨0,by simp⟩ (by simp [lentO]) ?_ (tg:=.mk)
  rintro x cs - ⟨rfl,rfl⟩
  cases hq:(decide (why=0) && isW m tB)
  ·simp -implicitDefEqProofs [f4]
   refine ⟨g - 1,by omega,2,r,by omega,hr0,by simp [f0],by simp [f3],by simp [wrap64 2 (by omega)],?_,?_,fun _=>n0 (by omega),fun _=>hq,by omega⟩
   ·rw [List.getElem?_set_self hl0]
   ·rw [List.getElem?_set_ne (by omega)]; exact hr
  ·simp only [Bool.and_eq_true,decide_eq_true_eq] at hq
   have ht:typOf m=some 2:=by
    have:=n0 (by omega)
    rw [hq.1] at this
    unfold typOf; rw [if_neg (by simpa using this),if_pos hq.2]
   simp -implicitDefEqProofs [f4,hq.1,ht,finM,hl0,rdr,wrap64 2 (by omega)]
 | 2,hk=>
  simp -implicitDefEqProofs [f0,f3,f4,hr]
  refine SC.rd (by simp) [.ptr 0 0,sv tL] (by simp) (all:=all) (l:=l) (a:=a) (why:=why) (wh:=wh) (n:=n) (by simpa using h0) (htake tL) (by simp [toO]) ⟨0,by simp⟩ (by simp [lentO]) ?_ (tg:=.mk)
  rintro x cs - ⟨rfl,rfl⟩
  cases hq:(decide (why=0) && isW m tL)
  ·simp -implicitDefEqProofs [f4]
   refine ⟨g - 1,by omega,3,r,by omega,hr0,by simp [f0],by simp [f3],by simp [wrap64 3 (by omega)],?_,?_,fun _=>n0 (by omega),fun _=>n1 (by omega),fun _=>hq⟩
   ·rw [List.getElem?_set_self hl0]
   ·rw [List.getElem?_set_ne (by omega)]; exact hr
  ·simp only [Bool.and_eq_true,decide_eq_true_eq] at hq
   have ht:typOf m=some 3:=by
    have h1:=n0 (by omega)
    have h2:=n1 (by omega)
    rw [hq.1] at h1 h2
    unfold typOf; rw [if_neg (by simpa using h1),if_neg (by simpa using h2),if_pos hq.2]
   simp -implicitDefEqProofs [f4,hq.1,ht,finM,hl0,rdr,wrap64 3 (by omega)]
 | 3,hk=>
  have hfail:=rfail_ap (G:=G) all l a why wh n 21 h
  simp -implicitDefEqProofs [f0,f3,f4,hr]
  refine SC.rd (by simp) [.ptr 0 0,iv 21] (by simp) (all:=all) (l:=l) (a:=a) (why:=why) (wh:=wh) (n:=n) (by simpa using h0) hfail (by simp [toO]) ⟨0,by simp⟩ (by simp [lentO]) ?_ (tg:=.mk)
  rintro x cs - ⟨rfl,rfl⟩
  by_cases hw:why=0
  ·subst hw
   have h1:=n0 (by omega)
   have h2:=n1 (by omega)
   have h3:=n2 (by omega)
   have ht:typOf m=none:=by unfold typOf; rw [if_neg (by simpa using h1),if_neg (by simpa using h2),if_neg (by simpa using h3)]
   simp -implicitDefEqProofs [ht,finM,hl0,rdr]
  ·simp -implicitDefEqProofs [hw,finM,hl0,rdr]
 | k + 4,hk=>omega
end
end Go.Proofs.YtgddkgbidhhheaaGreatDoor
set_option linter.unusedVariables false
set_option linter.unusedSimpArgs false
set_option maxRecDepth 100000
namespace Go.Proofs.YtgddkgbidhhheaaGreatDoor
open Go.RowKit Flo Ab Mk Pg
section
variable {G:World→Prop}
theorem zeroE_cells:Ex.zero.cells=[iv 0,sv [],sv [],iv 0,cv 0 0,.sl 0 [],iv 0]:=by simp [Ex.zero,Ex.cells,exsA,W0]
theorem ptwo_ap (op:Int) (a b:Ex) (m:M):AP Tryz.prog G 133 [iv op,exA a,exA b,.agg (mcells m)] (fun x=>x=exA (two op a b m.pos)):=by
 obtain ⟨ao,an,at',aty,anum,aargs,apos⟩:=a
 obtain ⟨bo,bn,bt,bty,bnum,bargs,bpos⟩:=b
 refine AP.go hmix F_ptwo (by simp) ?_
 simp -implicitDefEqProofs [c_ptwo,exA,Ex.cells,mcells,two,exsA,W0,evP,fillA,wrOb,splice]
def wordN (s:List UInt8):Int:=if s=tTrue then 2 else if s=tFalse then 3 else if s=tNil then 4 else if s=tFail then 5 else if s=tNot then 14 else if s=tRe then 15 else if s=tIm then 16 else if s=tConj then 17 else 0
theorem pword_ap (s:List UInt8):AP Tryz.prog G 177 [sv s] (fun x=>x=iv (wordN s)):=by
 refine AP.go hmix F_pword (by simp) ?_
 unfold wordN
 by_cases h1:s=tTrue
 ·simp -implicitDefEqProofs [c_pword,h1]
 by_cases h2:s=tFalse
 ·simp -implicitDefEqProofs [c_pword,h2]
 by_cases h3:s=tNil
 ·simp -implicitDefEqProofs [c_pword,h3]
 by_cases h4:s=tFail
 ·simp -implicitDefEqProofs [c_pword,h4]
 by_cases h5:s=tNot
 ·simp -implicitDefEqProofs [c_pword,h5]
 by_cases h6:s=tRe
 ·simp -implicitDefEqProofs [c_pword,h6]
 by_cases h7:s=tIm
 ·simp -implicitDefEqProofs [c_pword,h7]
 by_cases h8:s=tConj
 ·simp -implicitDefEqProofs [c_pword,h8]
 have e:∀ t:List UInt8,s≠t→(s == t)=false:=fun t ht=>beq_eq_false_iff_ne.2 ht
 simp -implicitDefEqProofs [c_pword,h1,h2,h3,h4,h5,h6,h7,h8,e _ h1,e _ h2,e _ h3,e _ h4,e _ h5,e _ h6,e _ h7,e _ h8]
def BadC (G:World→Prop) (f:Nat) (all:List M) (l:Lim):Prop:=∀ (a:Nat) (w p n:Int),a < all.length→w≠0→AM Tryz.prog G f [.ptr 0 0] (rdr all l a w p n) (fun x cs=>∃ e:Ex,x=exA e∧cs=rdr all l a w p n)
theorem unit_bad (all:List M) (l:Lim):BadC G 170 all l:=by
 intro a w p n ha hw
 have h:all[a]? = some all[a]:=List.getElem?_eq_getElem ha
 refine AM.go hmix F_punit (by simp) ?_
 simp -implicitDefEqProofs [c_punit]
 refine SC.rd (by simp) [.ptr 0 0] (by simp) (all:=all) (l:=l) (a:=a) (why:=w) (wh:=p) (n:=n) (by simp) (rnext_ap all l a w p n h) (by simp [toO]) ⟨0,by simp⟩ (by simp [lentO]) ?_ (tg:=.mk)
 rintro x cs - ⟨rfl,rfl⟩
 simp -implicitDefEqProofs [rdr,mcells,wrOb,splice,hw,evP,fillA,finM]
 exact ⟨Ex.zero,by rw [exA,zeroE_cells]⟩
theorem is_bad (all:List M) (l:Lim) {a:Nat} {w p n:Int} (ha:a < all.length) (hw:w≠0) (s:List UInt8):AM Tryz.prog G 79 [.ptr 0 0,sv s] (rdr all l a w p n) (fun x cs=>x=bv false∧cs=rdr all l a w p n):=by
 have:=ris_ap (G:=G) all l a w p n s (List.getElem?_eq_getElem ha)
 simpa [hw] using this
theorem take_bad (all:List M) (l:Lim) {a:Nat} {w p n:Int} (ha:a < all.length) (ha':a < 1000000000) (hw:w≠0) (s:List UInt8):AM Tryz.prog G 110 [.ptr 0 0,sv s] (rdr all l a w p n) (fun x cs=>x=bv false∧cs=rdr all l a w p n):=by
 have:=rtake_ap (G:=G) all l a w p n s (List.getElem?_eq_getElem ha) ha'
 simpa [hw] using this
theorem term_bad (all:List M) (l:Lim):BadC G 159 all l:=by
 intro a w p n ha hw
 refine AM.go hmix F_pterm (by simp) ?_
 simp -implicitDefEqProofs [c_pterm]
 refine SC.rd (by simp) [.ptr 0 0] (by simp) (all:=all) (l:=l) (a:=a) (why:=w) (wh:=p) (n:=n) (by simp) (unit_bad all l a w p n ha hw) (by simp [toO]) ⟨0,by simp⟩ (by simp [lentO]) ?_ (tg:=.mk)
 rintro x cs - ⟨e,rfl,rfl⟩
 obtain ⟨o,nm,tl,ty,num,args,pos⟩:=e
 simp -implicitDefEqProofs [exA,Ex.cells,wrOb,splice]
 refine LP.go (fun g F H=>F 0=some (.ptr 0 0)∧F 2=some (.ptr 1 0)∧F 3=some (.ptr 2 0)∧H=[.var (rdr all l a w p n),.var [iv 0,sv [],sv [],iv 0,cv 0 0,.v (.slice none 0 0),iv 0],.var (Ex.mk o nm tl ty num args pos).cells]) 0 ⟨by simp,by simp,by simp,by simp [Ex.cells]⟩ ?_
 unfold c_pterm_L0
 rintro g F H ⟨f0,f2,f3,rfl⟩
 simp -implicitDefEqProofs [f0]
 refine SC.rd (by simp) [.ptr 0 0,sv sStar] (by simp) (all:=all) (l:=l) (a:=a) (why:=w) (wh:=p) (n:=n) (by simp) (is_bad all l ha hw sStar) (by simp [toO]) ⟨0,by simp⟩ (by simp [lentO]) ?_ (tg:=.mk)
 rintro x cs - ⟨rfl,rfl⟩
 simp -implicitDefEqProofs [f0]
 refine SC.rd (by simp) [.ptr 0 0,sv sSlash] (by simp) (all:=all) (l:=l) (a:=a) (why:=w) (wh:=p) (n:=n) (by simp) (is_bad all l ha hw sSlash) (by simp [toO]) ⟨0,by simp⟩ (by simp [lentO]) ?_ (tg:=.mk)
 rintro x cs - ⟨rfl,rfl⟩
 simp -implicitDefEqProofs [f0,f2,f3,Ex.cells,wrOb,splice,finM,rdr]
 exact ⟨Ex.mk o nm tl ty num args pos,by simp [exA,Ex.cells]⟩
theorem sum_bad (all:List M) (l:Lim):BadC G 147 all l:=by
 intro a w p n ha hw
 refine AM.go hmix F_psum (by simp) ?_
 simp -implicitDefEqProofs [c_psum]
 refine SC.rd (by simp) [.ptr 0 0] (by simp) (all:=all) (l:=l) (a:=a) (why:=w) (wh:=p) (n:=n) (by simp) (term_bad all l a w p n ha hw) (by simp [toO]) ⟨0,by simp⟩ (by simp [lentO]) ?_ (tg:=.mk)
 rintro x cs - ⟨e,rfl,rfl⟩
 obtain ⟨o,nm,tl,ty,num,args,pos⟩:=e
 simp -implicitDefEqProofs [exA,Ex.cells,wrOb,splice]
 refine LP.go (fun g F H=>F 0=some (.ptr 0 0)∧F 2=some (.ptr 1 0)∧F 3=some (.ptr 2 0)∧H=[.var (rdr all l a w p n),.var [iv 0,sv [],sv [],iv 0,cv 0 0,.v (.slice none 0 0),iv 0],.var (Ex.mk o nm tl ty num args pos).cells]) 0 ⟨by simp,by simp,by simp,by simp [Ex.cells]⟩ ?_
 unfold c_psum_L0
 rintro g F H ⟨f0,f2,f3,rfl⟩
 simp -implicitDefEqProofs [f0]
 refine SC.rd (by simp) [.ptr 0 0,sv sPlus] (by simp) (all:=all) (l:=l) (a:=a) (why:=w) (wh:=p) (n:=n) (by simp) (is_bad all l ha hw sPlus) (by simp [toO]) ⟨0,by simp⟩ (by simp [lentO]) ?_ (tg:=.mk)
 rintro x cs - ⟨rfl,rfl⟩
 simp -implicitDefEqProofs [f0]
 refine SC.rd (by simp) [.ptr 0 0,sv sMinus] (by simp) (all:=all) (l:=l) (a:=a) (why:=w) (wh:=p) (n:=n) (by simp) (is_bad all l ha hw sMinus) (by simp [toO]) ⟨0,by simp⟩ (by simp [lentO]) ?_ (tg:=.mk)
 rintro x cs - ⟨rfl,rfl⟩
 simp -implicitDefEqProofs [f0,f2,f3,Ex.cells,wrOb,splice,finM,rdr]
 exact ⟨Ex.mk o nm tl ty num args pos,by simp [exA,Ex.cells]⟩
theorem comp_bad (all:List M) (l:Lim) (hlen:all.length≤1000000000):BadC G 132 all l:=by
 intro a w p n ha hw
 have h:all[a]? = some all[a]:=List.getElem?_eq_getElem ha
 refine AM.go hmix F_pcomp (by simp) ?_
 simp -implicitDefEqProofs [c_pcomp]
 refine SC.rd (by simp) [.ptr 0 0] (by simp) (all:=all) (l:=l) (a:=a) (why:=w) (wh:=p) (n:=n) (by simp) (sum_bad all l a w p n ha hw) (by simp [toO]) ⟨0,by simp⟩ (by simp [lentO]) ?_ (tg:=.mk)
 rintro x cs - ⟨e,rfl,rfl⟩
 obtain ⟨o,nm,tl,ty,num,args,pos⟩:=e
 simp -implicitDefEqProofs [exA,Ex.cells,wrOb,splice]
 refine SC.rd (by simp) [.ptr 0 0] (by simp) (all:=all) (l:=l) (a:=a) (why:=w) (wh:=p) (n:=n) (by simp) (rnext_ap all l a w p n h) (by simp [toO]) ⟨0,by simp⟩ (by simp [lentO]) ?_ (tg:=.mk)
 rintro x cs - ⟨rfl,rfl⟩
 simp -implicitDefEqProofs [mcells,wrOb,splice]
 refine SC.rd (by simp) [.ptr 0 0,sv sLess] (by simp) (all:=all) (l:=l) (a:=a) (why:=w) (wh:=p) (n:=n) (by simp) (is_bad all l ha hw sLess) (by simp [toO]) ⟨0,by simp⟩ (by simp [lentO]) ?_ (tg:=.mk)
 rintro x cs - ⟨rfl,rfl⟩
 simp -implicitDefEqProofs
 refine SC.rd (by simp) [.ptr 0 0,sv sEqEq] (by simp) (all:=all) (l:=l) (a:=a) (why:=w) (wh:=p) (n:=n) (by simp) (take_bad all l ha (by omega) hw sEqEq) (by simp [toO]) ⟨0,by simp⟩ (by simp [lentO]) ?_ (tg:=.mk)
 rintro x cs - ⟨rfl,rfl⟩
 simp -implicitDefEqProofs
 refine SC.rd (by simp) [.ptr 0 0,sv sLess] (by simp) (all:=all) (l:=l) (a:=a) (why:=w) (wh:=p) (n:=n) (by simp) (take_bad all l ha (by omega) hw sLess) (by simp [toO]) ⟨0,by simp⟩ (by simp [lentO]) ?_ (tg:=.mk)
 rintro x cs - ⟨rfl,rfl⟩
 simp -implicitDefEqProofs [wrOb,splice,finM,rdr]
 exact ⟨Ex.mk o nm tl ty num args pos,by simp [exA,Ex.cells]⟩
theorem cons_bad (all:List M) (l:Lim) (hlen:all.length≤1000000000):BadC G 111 all l:=by
 intro a w p n ha hw
 have h:all[a]? = some all[a]:=List.getElem?_eq_getElem ha
 refine AM.go hmix F_pcons (by simp) ?_
 simp -implicitDefEqProofs [c_pcons]
 refine SC.rd (by simp) [.ptr 0 0] (by simp) (all:=all) (l:=l) (a:=a) (why:=w) (wh:=p) (n:=n) (by simp) (comp_bad all l hlen a w p n ha hw) (by simp [toO]) ⟨0,by simp⟩ (by simp [lentO]) ?_ (tg:=.mk)
 rintro x cs - ⟨e,rfl,rfl⟩
 obtain ⟨o,nm,tl,ty,num,args,pos⟩:=e
 simp -implicitDefEqProofs [exA,Ex.cells,wrOb,splice]
 refine SC.rd (by simp) [.ptr 0 0] (by simp) (all:=all) (l:=l) (a:=a) (why:=w) (wh:=p) (n:=n) (by simp) (rnext_ap all l a w p n h) (by simp [toO]) ⟨0,by simp⟩ (by simp [lentO]) ?_ (tg:=.mk)
 rintro x cs - ⟨rfl,rfl⟩
 simp -implicitDefEqProofs [mcells,wrOb,splice]
 refine SC.rd (by simp) [.ptr 0 0,sv sColon] (by simp) (all:=all) (l:=l) (a:=a) (why:=w) (wh:=p) (n:=n) (by simp) (take_bad all l ha (by omega) hw sColon) (by simp [toO]) ⟨0,by simp⟩ (by simp [lentO]) ?_ (tg:=.mk)
 rintro x cs - ⟨rfl,rfl⟩
 simp -implicitDefEqProofs [wrOb,splice,finM,rdr]
 exact ⟨Ex.mk o nm tl ty num args pos,by simp [exA,Ex.cells]⟩
theorem expr_bad (all:List M) (l:Lim):BadC G 81 all l:=by
 intro a w p n ha hw
 have h:all[a]? = some all[a]:=List.getElem?_eq_getElem ha
 refine AM.go hmix F_pexpr (by simp) ?_
 simp -implicitDefEqProofs [c_pexpr]
 refine SC.rd (by simp) [.ptr 0 0] (by simp) (all:=all) (l:=l) (a:=a) (why:=w) (wh:=p) (n:=n) (by simp) (rnext_ap all l a w p n h) (by simp [toO]) ⟨0,by simp⟩ (by simp [lentO]) ?_ (tg:=.mk)
 rintro x cs - ⟨rfl,rfl⟩
 simp -implicitDefEqProofs [mcells,wrOb,splice]
 refine SC.rd (by simp) [.ptr 0 0,sv tLet] (by simp) (all:=all) (l:=l) (a:=a) (why:=w) (wh:=p) (n:=n) (by simp) (is_bad all l ha hw tLet) (by simp [toO]) ⟨0,by simp⟩ (by simp [lentO]) ?_ (tg:=.mk)
 rintro x cs - ⟨rfl,rfl⟩
 simp -implicitDefEqProofs
 refine SC.rd (by simp) [.ptr 0 0,sv tStrict] (by simp) (all:=all) (l:=l) (a:=a) (why:=w) (wh:=p) (n:=n) (by simp) (is_bad all l ha hw tStrict) (by simp [toO]) ⟨0,by simp⟩ (by simp [lentO]) ?_ (tg:=.mk)
 rintro x cs - ⟨rfl,rfl⟩
 simp -implicitDefEqProofs
 refine SC.rd (by simp) [.ptr 0 0,sv tCase] (by simp) (all:=all) (l:=l) (a:=a) (why:=w) (wh:=p) (n:=n) (by simp) (is_bad all l ha hw tCase) (by simp [toO]) ⟨0,by simp⟩ (by simp [lentO]) ?_ (tg:=.mk)
 rintro x cs - ⟨rfl,rfl⟩
 simp -implicitDefEqProofs [rdr,hw,evP,fillA,wrOb,splice,finM]
 exact ⟨Ex.zero,by rw [exA,zeroE_cells]⟩
end
end Go.Proofs.YtgddkgbidhhheaaGreatDoor
set_option linter.unusedVariables false
set_option linter.unusedSimpArgs false
set_option maxRecDepth 100000
namespace Go.Proofs.YtgddkgbidhhheaaGreatDoor
open Go.RowKit Flo Ab Mk Pg
structure Mks (all:List M):Prop where
 len:all.length≤40000
 fin:∀ (a:Nat) (m:M),all[a]? = some m→m.kind≠4→a + 1 < all.length
 sign:∀ m ∈ all,m.kind=3→wordN m.text=0
theorem drop_at {all:List M} {a:Nat} {m:M} (h:all[a]? = some m):all.drop a=m :: all.drop (a + 1):=by
 obtain ⟨hl,rfl⟩:=List.getElem?_eq_some_iff.1 h
 exact List.drop_eq_getElem_cons hl
theorem at_mem {all:List M} {a:Nat} {m:M} (h:all[a]? = some m):m ∈ all:=List.mem_of_getElem? h
def _root_.Go.Proofs.YtgddkgbidhhheaaGreatDoor.Pg.Res.pre (vs:List Vl) (r:Res):Res:=vs.foldr Res.cons r
theorem pre_snoc (vs:List Vl) (v:Vl) (r:Res):Res.pre (vs++[v]) r=Res.pre vs (r.cons v):=by unfold Res.pre; rw [List.foldr_append]; rfl
theorem pre_bad (vs:List Vl) (w p:Int):Res.pre vs (.bad w p)=.bad w p:=by
 unfold Res.pre
 induction vs with
 | nil=>rfl
 | cons v vs ih=>rw [List.foldr_cons,ih]; rfl
theorem pre_ok (vs us:List Vl) (ms:List M):Res.pre vs (.ok us ms)=.ok (vs++us) ms:=by
 unfold Res.pre
 induction vs with
 | nil=>rfl
 | cons v vs ih=>rw [List.foldr_cons,ih]; rfl
def Out (Pj:Res→Prop) (all:List M) (l:Lim) (b:Nat) (n:Int) (x:AV) (cs:List AV):Prop:=
 (∃ (e:Ex) (a':Nat),Pj (.ok [.e e] (all.drop a'))∧x=exA e∧b < a'∧a' < all.length∧cs=rdr all l a' 0 0 n)∨(∃ (w p:Int) (e:Ex) (a':Nat) (n':Int),Pj (.bad w p)∧w≠0∧x=exA e∧a' < all.length∧cs=rdr all l a' w p n')
def GC (G:World→Prop) (f:Nat) (all:List M) (l:Lim) (job:Int→List M→Job) (a:Nat):Prop:=∀ n:Int,0≤n→n≤a→AM Tryz.prog G f [.ptr 0 0] (rdr all l a 0 0 n) (fun x cs=>Out (P l (job n (all.drop a))) all l a n x cs)
def Sq (l:Lim) (all:List M) (b:Nat) (n:Int) (Q:Res→Prop) (vs:List Vl) (its:List It) (a:Nat) (w p n':Int):Prop:=
 a < all.length∧((w=0∧p=0∧n'=n∧b < a∧∀ r,P l (.seq n its (all.drop a)) r→Q (Res.pre vs r))∨(w≠0∧Q (.bad w p)))
section
variable {G:World→Prop} {all:List M} {l:Lim} {b:Nat} {n:Int} {Q:Res→Prop}
theorem Sq.new {a:Nat} (ha:a < all.length) (hb:b < a) (its:List It):Sq l all b n (P l (.seq n its (all.drop a))) [] its a 0 0 n:=⟨ha,.inl ⟨rfl,rfl,rfl,hb,fun r h=>h⟩⟩
theorem Sq.end {vs:List Vl} {a:Nat} {w p n':Int} (h:Sq l all b n Q vs [] a w p n'):(w=0∧p=0∧n'=n∧b < a∧a < all.length∧Q (.ok vs (all.drop a)))∨(w≠0∧a < all.length∧Q (.bad w p)):=by
 obtain ⟨ha,⟨h1,h2,h3,h4,h5⟩ | ⟨h1,h2⟩⟩:=h
 ·have:=h5 _ (.nil n _)
  rw [pre_ok,List.append_nil] at this
  exact .inl ⟨h1,h2,h3,h4,ha,this⟩
 ·exact .inr ⟨h1,ha,h2⟩
theorem Sq.skip {vs:List Vl} {v v':Vl} {its:List It} {a:Nat} {w p n':Int} (hw:w≠0) (h:Sq l all b n Q vs its a w p n') (vs':List Vl) (its':List It):Sq l all b n Q vs' its' a w p n':=by
 obtain ⟨ha,⟨h1,_⟩ | ⟨h1,h2⟩⟩:=h
 ·exact absurd h1 hw
 ·exact ⟨ha,.inr ⟨h1,h2⟩⟩
theorem Sq.go {vs:List Vl} {v:Vl} {its:List It} {i:It} {a a':Nat} {n':Int} (h:Sq l all b n Q vs (i :: its) a 0 0 n') (ha:a < a') (ha':a' < all.length) (hs:∀ r,P l (.seq n its (all.drop a')) r→P l (.seq n (i :: its) (all.drop a)) (r.cons v)):n'=n∧Sq l all b n Q (vs++[v]) its a' 0 0 n:=by
 obtain ⟨h0,⟨_,_,h3,h4,h5⟩ | ⟨h1,_⟩⟩:=h
 ·exact ⟨h3,ha',.inl ⟨rfl,rfl,rfl,by omega,fun r hr=>by rw [pre_snoc]; exact h5 _ (hs r hr)⟩⟩
 ·exact absurd rfl h1
theorem Sq.stop {vs vs':List Vl} {its its':List It} {a a':Nat} {n' n'' w p:Int} (h:Sq l all b n Q vs its a 0 0 n') (ha':a' < all.length) (hw:w≠0) (hs:P l (.seq n its (all.drop a)) (.bad w p)):Sq l all b n Q vs' its' a' w p n'':=by
 obtain ⟨h0,⟨_,_,h3,h4,h5⟩ | ⟨h1,_⟩⟩:=h
 ·have:=h5 _ hs
  rw [pre_bad] at this
  exact ⟨ha',.inr ⟨hw,this⟩⟩
 ·exact absurd rfl h1
theorem Sq.st {vs:List Vl} {its:List It} {a:Nat} {w p n':Int} (h:Sq l all b n Q vs its a w p n'):a < all.length∧((w=0∧p=0∧n'=n∧b < a)∨w≠0):=by
 obtain ⟨h0,⟨h1,h2,h3,h4,h5⟩ | ⟨h1,_⟩⟩:=h
 ·exact ⟨h0,.inl ⟨h1,h2,h3,h4⟩⟩
 ·exact ⟨h0,.inr h1⟩
theorem want_sq (hm:Mks all) {vs:List Vl} {s:List UInt8} {its:List It} {a:Nat} {w p n':Int} (h:Sq l all b n Q vs (.w s :: its) a w p n'):AM Tryz.prog G 78 [.ptr 0 0,sv s] (rdr all l a w p n')
  (fun x cs=>x=.tup []∧∃ (a:Nat) (w p n':Int),cs=rdr all l a w p n'∧Sq l all b n Q (vs++[.u]) its a w p n'):=by
 obtain ⟨ha,hst⟩:=h.st
 have h0:all[a]? = some all[a]:=List.getElem?_eq_getElem ha
 have hlen:=hm.len
 refine AM.mono (rwant_ap all l a w p n' s h0 (by omega)) ?_
 rintro x cs ⟨rfl,rfl⟩
 refine ⟨rfl,?_⟩
 unfold wantS
 rcases hst with ⟨rfl,rfl,rfl,hb⟩ | hw
 ·rw [if_pos rfl]
  cases hq:isW all[a] s
  ·refine ⟨a,21,all[a].pos,n',by simp [hq],h.stop ha (by omega) ?_⟩
   rw [drop_at h0]; exact .wBad _ _ _ hq
  ·obtain ⟨hk0,hk2,hk4⟩:=isW_kind hq
   obtain ⟨_,hs⟩:=h.go (v:=.u) (a':=a + 1) (by omega) (hm.fin a _ h0 hk4) (fun r hr=>by rw [drop_at h0]; exact .w hq hr)
   exact ⟨a + 1,0,0,n',by simp [hq],hs⟩
 ·rw [if_neg hw]
  exact ⟨a,w,p,n',rfl,h.skip (v:=.u) (v':=.u) hw _ _⟩
theorem name_sq (hm:Mks all) {vs:List Vl} {its:List It} {a:Nat} {w p n':Int} (h:Sq l all b n Q vs (.nm :: its) a w p n'):AM Tryz.prog G 77 [.ptr 0 0] (rdr all l a w p n')
  (fun x cs=>∃ m:M,x=.agg (mcells m)∧∃ (a:Nat) (w p n':Int),cs=rdr all l a w p n'∧Sq l all b n Q (vs++[.nm m]) its a w p n'):=by
 obtain ⟨ha,hst⟩:=h.st
 have h0:all[a]? = some all[a]:=List.getElem?_eq_getElem ha
 have hlen:=hm.len
 refine AM.mono (rname_ap all l a w p n' h0 (by omega)) ?_
 intro x cs hx
 rcases hst with ⟨rfl,rfl,rfl,hb⟩ | hw
 ·rw [if_pos rfl] at hx
  by_cases hk:all[a].kind=0
  ·rw [if_pos hk] at hx
   obtain ⟨rfl,rfl⟩:=hx
   obtain ⟨_,hs⟩:=h.go (v:=.nm all[a]) (a':=a + 1) (by omega) (hm.fin a _ h0 (by omega)) (fun r hr=>by rw [drop_at h0]; exact .nm hk hr)
   exact ⟨_,rfl,a + 1,0,0,_,rfl,hs⟩
  ·rw [if_neg hk] at hx
   obtain ⟨rfl,rfl⟩:=hx
   refine ⟨_,rfl,a,21,_,_,rfl,h.stop ha (by omega) ?_⟩
   rw [drop_at h0]; exact .nmBad _ _ _ hk
 ·rw [if_neg hw] at hx
  obtain ⟨rfl,rfl⟩:=hx
  exact ⟨_,rfl,a,w,p,n',rfl,h.skip (v:=.u) (v':=.u) hw _ _⟩
theorem typ_sq (hm:Mks all) {vs:List Vl} {its:List It} {a:Nat} {w p n':Int} (h:Sq l all b n Q vs (.ty :: its) a w p n'):AM Tryz.prog G 80 [.ptr 0 0] (rdr all l a w p n')
  (fun x cs=>∃ t:Int,x=iv t∧∃ (a:Nat) (w p n':Int),cs=rdr all l a w p n'∧Sq l all b n Q (vs++[.ty t]) its a w p n'):=by
 obtain ⟨ha,hst⟩:=h.st
 have h0:all[a]? = some all[a]:=List.getElem?_eq_getElem ha
 have hlen:=hm.len
 refine AM.mono (rtyp_ap all l a w p n' h0 (by omega)) ?_
 intro x cs hx
 rcases hst with ⟨rfl,rfl,rfl,hb⟩ | hw
 ·rw [if_pos rfl] at hx
  cases hk:typOf all[a] with
  | some t=>
   rw [hk] at hx
   obtain ⟨rfl,rfl⟩:=hx
   have hk4:all[a].kind≠4:=by
    unfold typOf at hk
    split at hk
    ·rename_i hq; exact (isW_kind hq).2.2
    ·split at hk
     ·rename_i hq; exact (isW_kind hq).2.2
     ·split at hk
      ·rename_i hq; exact (isW_kind hq).2.2
      ·cases hk
   obtain ⟨_,hs⟩:=h.go (v:=.ty t) (a':=a + 1) (by omega) (hm.fin a _ h0 hk4) (fun r hr=>by rw [drop_at h0]; exact .ty hk hr)
   exact ⟨_,rfl,a + 1,0,0,_,rfl,hs⟩
  | none=>
   rw [hk] at hx
   obtain ⟨rfl,rfl⟩:=hx
   refine ⟨_,rfl,a,21,_,_,rfl,h.stop ha (by omega) ?_⟩
   rw [drop_at h0]; exact .tyBad _ _ _ hk
 ·rw [if_neg hw] at hx
  obtain ⟨rfl,rfl⟩:=hx
  exact ⟨_,rfl,a,w,p,n',rfl,h.skip (v:=.u) (v':=.u) hw _ _⟩
def HX (G:World→Prop) (all:List M) (l:Lim) (b:Nat):Prop:=∀ a:Nat,b < a→a < all.length→GC G 81 all l .expr a
theorem expr_sq (hm:Mks all) (hX:HX G all l b) (hn:0≤n∧n≤b + 1) {vs:List Vl} {its:List It} {a:Nat} {w p n':Int} (h:Sq l all b n Q vs (.e :: its) a w p n'):AM Tryz.prog G 81 [.ptr 0 0] (rdr all l a w p n')
  (fun x cs=>∃ e:Ex,x=exA e∧∃ (a:Nat) (w p n':Int),cs=rdr all l a w p n'∧Sq l all b n Q (vs++[.e e]) its a w p n'):=by
 obtain ⟨ha,hst⟩:=h.st
 rcases hst with ⟨rfl,rfl,rfl,hb⟩ | hw
 ·refine AM.mono (hX a hb ha n' hn.1 (by omega)) ?_
  rintro x cs (⟨e,a',hP,rfl,ha1,ha2,rfl⟩ | ⟨w,p,e,a',n1,hP,hw,rfl,ha2,rfl⟩)
  ·obtain ⟨_,hs⟩:=h.go (v:=.e e) (a':=a') ha1 ha2 (fun r hr=>.e hP hr)
   exact ⟨_,rfl,a',0,0,_,rfl,hs⟩
  ·exact ⟨_,rfl,a',w,p,n1,rfl,h.stop ha2 hw (.eBad _ hP)⟩
 ·refine AM.mono (expr_bad all l a w p n' ha hw) ?_
  rintro x cs ⟨e,rfl,rfl⟩
  exact ⟨_,rfl,a,w,p,n',rfl,h.skip (v:=.u) (v':=.u) hw _ _⟩
end
end Go.Proofs.YtgddkgbidhhheaaGreatDoor
