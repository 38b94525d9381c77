/- Texts joined: Lnd Lne Lnf Lng. -/
import Derived.Test.YtgddkgbidhhheaaGreatDoorKwar
set_option linter.unusedVariables false
set_option linter.unusedSimpArgs false
set_option maxRecDepth 100000
namespace Go.Proofs.YtgddkgbidhhheaaGreatDoor
open Go.RowKit Flo Ab Mk Pg
section
variable {G:World→Prop} {l:Lim} {E:Int→Int→Prop} {n:Int} {Q:Res→Prop} {vs:List Vl} {is:List It}
structure MuI (l:Lim) (n:Int) (Q:Res→Prop) (vs:List Vl) (is:List It) (ss:List (List UInt8)) (len:Nat) (g:Nat) (F:Fr) (H:List Ob):Prop where
 k:∃ (j:Nat) (ms:List M),j≤ss.length∧g=ss.length - j∧F 8=some (iv j)∧H=[.var (prs l ms n)]∧SqL l n Q (vs++List.replicate j .u) ((ss.drop j).map It.w++is) ms∧ms.length + j=len
 f0:F 0=some (.ptr 0 0)
 f6:F 6=some (.sl ss.length (ss.map sv))
 f7:F 7=some (iv ss.length)
theorem lmust_sq (ss:List (List UInt8)) (hss:ss.length≤1000) {ms:List M} (h:SqL l n Q vs (ss.map It.w++is) ms) (hE:∀ w p,Q (.bad w p)→E w p):AM Tryz.prog (Gl G l E) 66 [.ptr 0 0,.sl ss.length (ss.map sv)] (prs l ms n)
  (fun x cs=>x=.tup []∧∃ ms',cs=prs l ms' n∧SqL l n Q (vs++List.replicate ss.length .u) is ms'∧ms'.length + ss.length=ms.length):=by
 refine AM.go hmix F_lmust (by simp) ?_
 simp -implicitDefEqProofs [c_lmust]
 refine LP.go (MuI l n Q vs is ss ms.length) ss.length ⟨⟨0,ms,by simp,by simp,by simp,rfl,by simpa using h,by simp⟩,by simp,by simp,by simp⟩ ?_
 unfold c_lmust_L0
 rintro g F H ⟨⟨j,ms,hj,rfl,h8,rfl,hS,hlen⟩,h0,h6,h7⟩
 by_cases hjl:j < ss.length
 ·have hjl':(j:Int) < ss.length:=by omega
  have hw1:IntKind.i64.wrap ((j:Int) + 1)=((j + 1:Nat):Int):=by rw [wrap64 _ (by omega)]; omega
  have hat:(ss.map sv)[j]? = some (sv ss[j]):=by simp [hjl]
  have hdr:ss.drop j=ss[j] :: ss.drop (j + 1):=List.drop_eq_getElem_cons hjl
  rw [hdr,List.map_cons,List.cons_append] at hS
  obtain ⟨s,hs⟩:∃ s,ss[j]=s:=⟨_,rfl⟩
  rw [hs] at hat hS
  obtain ⟨m,r,rfl⟩:=hS.1.cons
  obtain ⟨q,hq⟩:∃ q,isW m s=q:=⟨_,rfl⟩
  have hmay:=lmay_ap (G:=G) (l:=l) (E:=E) s m r n
  rw [hq] at hmay
  simp -implicitDefEqProofs [-Int.natCast_add,h0,h6,h7,h8,hjl,hjl',hat,hs]
  refine SC.pr (by simp) [.ptr 0 0,sv s] (by simp) (ms:=m :: r) (n:=n) (by simp -implicitDefEqProofs [h0,h6,h7,h8]) (hmay) (by simp [toO,h0,h6,h7,h8]) ⟨0,by simp [h0,h6,h7,h8]⟩ (by simp [lentO,h0,h6,h7,h8]) ?_ (tg:=.mk)
  rintro x cs - ⟨rfl,rfl⟩
  cases q
  ·simp -implicitDefEqProofs [-Int.natCast_add,h0,h6,h7,h8]
   refine SC.pr (by simp) [.ptr 0 0,iv 21] (by simp) (ms:=m :: r) (n:=n) (by simp -implicitDefEqProofs [h0,h6,h7,h8]) (lgive_ap m r n 21 (hE _ _ (hS.wBad hq))) (by simp [toO,h0,h6,h7,h8]) ⟨0,by simp [h0,h6,h7,h8]⟩ (by simp [lentO,h0,h6,h7,h8]) ?_ (tg:=.mk)
   rintro x cs - hf
   exact hf.elim
  ·simp -implicitDefEqProofs [-Int.natCast_add,h0,h6,h7,h8,hw1]
   refine ⟨ss.length - (j + 1),by omega,⟨⟨j + 1,r,by omega,rfl,by simp,rfl,?_,by simp only [List.length_cons] at hlen; omega⟩,by simp [h0],by simp [h6],by simp [h7]⟩⟩
   have:=hS.w hq
   rwa [List.append_assoc,← List.replicate_succ'] at this
 ·have hje:j=ss.length:=by omega
  subst hje
  simp -implicitDefEqProofs [-Int.natCast_add,h0,h6,h7,h8,finM]
  refine ⟨by simp [prs],ms,rfl,?_,hlen⟩
  simpa using hS
def strN (m:M):Int × Int:=match strOf m with
 | some (lv,op)=>((lv:Int),op)
 | none=>(-1,0)
theorem isW_sign {m:M} {s:List UInt8} (hk:m.kind=3):isW m s=(m.text == s):=by unfold isW; rw [hk]; simp
theorem isW_word {m:M} {s:List UInt8} (hk:m.kind=1):isW m s=(m.text == s):=by unfold isW; rw [hk]; simp
theorem isW_resv {m:M} {s:List UInt8} (htx:m.kind=1↔m.text ∈ resv) (hs:s ∈ resv) (hk:m.kind≠1):isW m s=false:=isW_not (fun e=>hk (htx.2 (e ▸ hs)))
theorem isW_sgn {m:M} {s:List UInt8} (htx:m.kind=1↔m.text ∈ resv) (hs:s ∉ resv) (hk:m.kind≠3):isW m s=false:=by
 by_cases h1:m.kind=1
 ·rw [isW_word h1]
  exact beq_eq_false_iff_ne.2 (fun e=>hs (e ▸ htx.1 h1))
 ·unfold isW
  rw [beq_eq_false_iff_ne.2 h1,beq_eq_false_iff_ne.2 hk]; rfl
theorem lstrength_ap (m : M) (htx : m.kind = 1 ↔ m.text ∈ resv) : AP Tryz.prog G 130 [.agg (mcells m)] (fun x => x = .tup [iv (strN m).1, iv (strN m).2]) := by
  refine AP.go hmix F_lstrength (by simp) ?_
  by_cases hk : m.kind = 3
  · have hk' : (m.kind : Int) = 3 := by omega
    unfold strN strOf
    simp only [isW_sign hk]
    by_cases h1 : m.text = sColon
    · simp -implicitDefEqProofs [c_lstrength, mcells, hk', h1, wrOb, splice]
    by_cases h2 : m.text = sEqEq
    · simp -implicitDefEqProofs [c_lstrength, mcells, hk', h2, wrOb, splice]
    by_cases h3 : m.text = sLess
    · simp -implicitDefEqProofs [c_lstrength, mcells, hk', h3, wrOb, splice]
    by_cases h4 : m.text = sPlus
    · simp -implicitDefEqProofs [c_lstrength, mcells, hk', h4, wrOb, splice]
    by_cases h5 : m.text = sMinus
    · simp -implicitDefEqProofs [c_lstrength, mcells, hk', h5, wrOb, splice]
    by_cases h6 : m.text = sStar
    · simp -implicitDefEqProofs [c_lstrength, mcells, hk', h6, wrOb, splice]
    by_cases h7 : m.text = sSlash
    · simp -implicitDefEqProofs [c_lstrength, mcells, hk', h7, wrOb, splice]
    · have b1 := beq_eq_false_iff_ne.2 h1
      have b2 := beq_eq_false_iff_ne.2 h2
      have b3 := beq_eq_false_iff_ne.2 h3
      have b4 := beq_eq_false_iff_ne.2 h4
      have b5 := beq_eq_false_iff_ne.2 h5
      have b6 := beq_eq_false_iff_ne.2 h6
      have b7 := beq_eq_false_iff_ne.2 h7
      simp -implicitDefEqProofs [c_lstrength, mcells, hk', b1, b2, b3, b4, b5, b6, b7, wrOb, splice]
  · have hk' : ¬ (m.kind : Int) = 3 := by omega
    have key : ∀ s ∈ [sColon, sEqEq, sLess, sPlus, sMinus, sStar, sSlash], isW m s = false := fun s hs => isW_sgn htx (by
      simp only [List.mem_cons, List.not_mem_nil, or_false] at hs
      rcases hs with rfl | rfl | rfl | rfl | rfl | rfl | rfl <;> decide) hk
    unfold strN strOf
    rw [key sColon (by simp), key sEqEq (by simp), key sLess (by simp), key sPlus (by simp), key sMinus (by simp), key sStar (by simp), key sSlash (by simp)]
    simp -implicitDefEqProofs [c_lstrength, mcells, hk', wrOb, splice]
end
end Go.Proofs.YtgddkgbidhhheaaGreatDoor
set_option linter.unusedVariables false
set_option linter.unusedSimpArgs false
set_option maxRecDepth 100000
namespace Go.Proofs.YtgddkgbidhhheaaGreatDoor
open Go.RowKit Flo Ab Mk Pg
def GCL (G:World→Prop) (f:Nat) (l:Lim) (job:Int→List M→Job) (ms:List M):Prop:=∀ (n:Int) (E:Int→Int→Prop),0≤n→n + ms.length≤50000→(∀ w p,P l (job n ms) (.bad w p)→E w p) →
 AM Tryz.prog (Gl G l E) f [.ptr 0 0] (prs l ms n) (fun x cs=>∃ e ms',P l (job n ms) (.ok [.e e] ms')∧x=exA e∧Mz ms'∧ms'.length < ms.length∧cs=prs l ms' n)
def HXL (G:World→Prop) (l:Lim) (L:Nat):Prop:=∀ ms,Mz ms→ms.length < L→GCL G 69 l .expr ms
section
variable {G:World→Prop} {l:Lim} {E:Int→Int→Prop} {n:Int} {Q:Res→Prop} {vs:List Vl} {is:List It} {L:Nat}
theorem lexpr_sq (hX:HXL G l L) (hn:0≤n) {ms:List M} (h:SqL l n Q vs (.e :: is) ms) (hlt:ms.length < L) (hb:n + ms.length≤50000) (hE:∀ w p,Q (.bad w p)→E w p):AM Tryz.prog (Gl G l E) 69 [.ptr 0 0] (prs l ms n)
  (fun x cs=>∃ e ms',x=exA e∧cs=prs l ms' n∧SqL l n Q (vs++[.e e]) is ms'∧ms'.length < ms.length):=by
 refine AM.mono (hX ms h.1 hlt n E hn hb (fun w p hp=>hE w p (h.eBad hp))) ?_
 rintro x cs ⟨e,ms',hP,rfl,hz,hl,rfl⟩
 exact ⟨e,ms',rfl,rfl,h.e hP hz,hl⟩
theorem lmust1 (s:List UInt8) {ms:List M} (h:SqL l n Q vs (.w s :: is) ms) (hE:∀ w p,Q (.bad w p)→E w p):AM Tryz.prog (Gl G l E) 66 [.ptr 0 0,.sl 1 [sv s]] (prs l ms n)
  (fun x cs=>x=.tup []∧∃ ms',cs=prs l ms' n∧SqL l n Q (vs++[.u]) is ms'∧ms'.length < ms.length):=by
 refine AM.mono (lmust_sq [s] (by simp) (ms:=ms) (vs:=vs) (is:=is) (by simpa using h) hE) ?_
 rintro x cs ⟨rfl,ms',rfl,hS,hl⟩
 exact ⟨rfl,ms',rfl,hS,by simp only [List.length_cons,List.length_nil] at hl; omega⟩
theorem args_next {ms0 ms:List M} {us:List Ex} (h:∀ r,P l (.args n us ms) r→P l (.args n [] ms0) r) (hz:Mz ms) {m:M} {r:List M} (hm:ms=m :: r) (hc:isW m sClose=false) :
  (us=[]∧SqL l n (fun r0=>match r0 with | .ok [.e e] ms'=>∀ r,P l (.args n [e] ms') r→P l (.args n [] ms0) r | .bad w p=>P l (.args n [] ms0) (.bad w p) | _=>True) [] [.e] ms) ∨
  (us≠[]∧SqL l n (fun r0=>match r0 with | .ok [.u,.e e] ms'=>∀ r,P l (.args n (us++[e]) ms') r→P l (.args n [] ms0) r | .bad w p=>P l (.args n [] ms0) (.bad w p) | _=>True) [] [.w sComma,.e] ms):=by
 subst hm
 by_cases hu:us=[]
 ·subst hu
  refine .inl ⟨rfl,hz,fun r0 hr0=>?_⟩
  cases hr0 with
  | e hx hr=>cases hr; exact fun r1 hr1=>h r1 (.aNext0 hc hx hr1)
  | eBad _ hx=>exact h _ (.aBad0 hc hx)
 ·refine .inr ⟨hu,hz,fun r0 hr0=>?_⟩
  cases hr0 with
  | w hq hr=>
   cases hr with
   | e hx hr=>cases hr; exact fun r1 hr1=>h r1 (.aNext hu hq hx hr1)
   | eBad _ hx=>exact h _ (.aBad hu hq hx)
  | wBad _ _ _ hq=>exact h _ (.aSep _ _ hc hu hq)
structure LiI (l:Lim) (n:Int) (ms0:List M) (g:Nat) (F:Fr) (H:List Ob):Prop where
 ex:∃ (us:List Ex) (ms:List M) (X:AV),g=ms.length∧F 3=some X∧H[0]? = some (.var (prs l ms n))∧(∀ r,P l (.args n us ms) r→P l (.args n [] ms0) r)∧Mz ms∧ms.length + us.length≤ms0.length ∧
  ((us=[]∧X=.v (.slice none 0 0))∨∃ r,0 < r∧X=.row r∧us≠[]∧H[r]? = some (.own 55 7 us.length (exsA us)))
 f0:F 0=some (.ptr 0 0)
 f2:F 2=some (.v (.slice none 0 0))
theorem llist_ok (hX:HXL G l L) (hn:0≤n) {ms:List M} (hz:Mz ms) (hlt:ms.length < L) (hb:n + ms.length≤50000) (hE:∀ w p,P l (.args n [] ms) (.bad w p)→E w p):AM Tryz.prog (Gl G l E) 145 [.ptr 0 0] (prs l ms n)
  (fun x cs=>∃ us ms',P l (.args n [] ms) (.ok [.asx us] ms')∧x=.sl us.length (exsA us)∧Mz ms'∧ms'.length < ms.length∧cs=prs l ms' n):=by
 have hlen:=hz.len
 refine AM.go hmix F_llist (by simp) ?_
 simp -implicitDefEqProofs [c_llist]
 refine LP.go (LiI l n ms) ms.length ⟨⟨[],ms,_,rfl,by simp,by simp,fun r hr=>hr,hz,by simp,.inl ⟨rfl,rfl⟩⟩,by simp,by simp⟩ ?_
 unfold c_llist_L0
 rintro g F H ⟨⟨us,ms1,X,rfl,h3,hH0,hA,hz1,hl1,hR⟩,h0,h2⟩
 obtain ⟨m,r1,rfl⟩:=hz1.cons
 have hl0:0 < H.length:=(List.getElem?_eq_some_iff.1 hH0).1
 obtain ⟨q,hq⟩:∃ q,isW m sClose=q:=⟨_,rfl⟩
 have hmay:=lmay_ap (G:=G) (l:=l) (E:=E) sClose m r1 n
 rw [hq] at hmay
 simp -implicitDefEqProofs [h0]
 refine SC.pr (by simp) [.ptr 0 0,sv sClose] (by simp) (ms:=m :: r1) (n:=n) (by simp -implicitDefEqProofs [hH0]) (hmay) (by simp [toO,hH0]) ⟨0,by simp [hH0]⟩ (by simp [lentO,hH0]) ?_ (tg:=.mk)
 rintro x cs - ⟨rfl,rfl⟩
 have hf0:(frzT H [.ptr 0 0,sv sClose]).1=H:=by simp
 rw [hf0]
 simp only [List.length_cons] at hl1 hlen hlt
 cases q
 ·rw [if_neg (by simp),set_same hH0]
  have hul:us.length≤40000:=by omega
  rcases args_next hA hz1 rfl hq with ⟨rfl,hS⟩ | ⟨hu,hS⟩
  ·rcases hR with ⟨_,rfl⟩ | ⟨r,_,_,h,_⟩
   ·have hex:=lexpr_sq (E:=E) hX hn hS (by simp only [List.length_cons]; omega) (by simp only [List.length_cons]; omega) (fun w p hp=>hE w p hp)
    simp -implicitDefEqProofs [h0,h2,h3]
    refine SC.pr (by simp) [.ptr 0 0] (by simp) (ms:=m :: r1) (n:=n) (by simp -implicitDefEqProofs [hH0]) (hex) (by simp [toO,hH0]) ⟨0,by simp [hH0]⟩ (by simp [lentO,hH0]) ?_ (tg:=.mk)
    rintro x cs - ⟨e,ms2,rfl,rfl,hS2,hl2⟩
    have hP2:=hS2.end
    obtain ⟨o,nm,tl,ty,num,args,pos⟩:=e
    simp -implicitDefEqProofs [exA,Ex.cells,wrOb,splice,h0,h2,h3,evP,fillA]
    simp only [List.length_cons] at hl2
    refine ⟨ms2.length,hl2,⟨[.mk o nm tl ty num args pos],ms2,.row (H.length + 1),rfl,by simp,?_,hP2,hS2.1,by simp only [List.length_cons,List.length_nil] at hl1 ⊢; omega,.inr ⟨H.length + 1,by omega,rfl,by simp,?_⟩⟩,by simp [h0],by simp [h2]⟩
    ·rw [List.getElem?_append_left (by simpa using hl0),List.getElem?_set_self hl0]
    ·rw [List.getElem?_append_right (by simp)]; simp [exsA,Ex.cells]
   ·exact absurd rfl h
  ·rcases hR with ⟨h,_⟩ | ⟨r,hr0,rfl,_,hr⟩
   ·exact absurd h hu
   ·have hul0:0 < us.length:=List.length_pos_iff.2 hu
    have hmu:=lmust1 (G:=G) (E:=E) sComma hS (fun w p hp=>hE w p hp)
    simp -implicitDefEqProofs [h0,h2,h3,hr,hul0,evP,fillA,splice]
    have hrl:r < H.length:=(List.getElem?_eq_some_iff.1 hr).1
    have hHg:H[0]'hl0=.var (prs l (m :: r1) n):=(List.getElem?_eq_some_iff.1 hH0).2
    refine SC.pr (by simp) [.ptr 0 0,.row H.length] (by simp) (ms:=m :: r1) (n:=n) (by simp -implicitDefEqProofs [hl0,List.getElem_append_left,hHg]) (hmu) (by simp [toO,hl0,List.getElem_append_left,hHg]) ⟨0,by simp [hl0,List.getElem_append_left,hHg]⟩ (by simp [lentO,hl0,List.getElem_append_left,hHg]) ?_ (tg:=.mk)
    rintro x cs - ⟨rfl,ms2,rfl,hS2,hl2⟩
    simp only [List.length_cons] at hl2
    have hex:=lexpr_sq (E:=E) hX hn hS2 (by omega) (by omega) (fun w p hp=>hE w p hp)
    simp -implicitDefEqProofs [h0,h2,h3,hr,hl0]
    refine SC.pr (by simp) [.ptr 0 0] (by simp) (ms:=ms2) (n:=n) (by simp -implicitDefEqProofs [hl0]) (hex) (by simp [toO,hl0]) ⟨0,by simp [hl0]⟩ (by simp [lentO,hl0]) ?_ (tg:=.mk)
    rintro x cs - ⟨e,ms3,rfl,rfl,hS3,hl3⟩
    have hP3:∀ r,P l (.args n (us++[e]) ms3) r→P l (.args n [] ms) r:=hS3.end
    obtain ⟨o,nm,tl,ty,num,args,pos⟩:=e
    have hrX:∀ (o:Ob) (X:List Ob),(H.set 0 o++X)[r]? = some (.own 55 7 us.length (exsA us)):=fun o X=>by
     rw [List.getElem?_append_left (by simpa using hrl),List.getElem?_set_ne (by omega)]; exact hr
    have hb1:(us.length + 1) * 96≤140737488355328:=by omega
    have hb2:us.length + 1≤1073741824:=by omega
    have hb3:us.length≤1073741823:=by omega
    simp -implicitDefEqProofs [exA,Ex.cells,wrOb,splice,h0,h2,h3,hrX,hb1,hb2,hb3,evP,fillA,hl0,hrl]
    refine ⟨ms3.length,by omega,⟨us++[.mk o nm tl ty num args pos],ms3,.row (H.length + 2),rfl,by simp,?_,hP3,hS3.1,by simp only [List.length_append,List.length_cons,List.length_nil]; omega,.inr ⟨H.length + 2,by omega,rfl,by simp,?_⟩⟩,by simp [h0],by simp [h2]⟩
    ·rw [List.getElem?_append_left (by simpa using hl0),List.getElem?_set_ne (by omega),List.getElem?_set_self hl0]
    ·rw [List.getElem?_append_right (by simp)]; simp [exsA_snoc,Ex.cells]
 ·rw [if_pos rfl]
  have hz2:=hz1.tail (isW_kind hq).2.2
  have hP:=hA _ (.aStop n us r1 hq)
  rcases hR with ⟨rfl,rfl⟩ | ⟨r,hr0,rfl,hu,hr⟩
  ·simp -implicitDefEqProofs [h0,h2,h3,hl0,finM]
   exact ⟨by simp [prs],[],r1,hP,⟨rfl,rfl⟩,hz2,by omega,rfl⟩
  ·have hrX:∀ o,(H.set 0 o)[r]? = some (.own 55 7 us.length (exsA us)):=fun o=>by rw [List.getElem?_set_ne (by omega)]; exact hr
   simp -implicitDefEqProofs [h0,h2,h3,hr,hl0,hrX,finM]
   exact ⟨prs l r1 n,by rw [List.getElem_set_ne (by omega),List.getElem_set_self],by simp [prs],us,r1,hP,⟨rfl,rfl⟩,hz2,by omega,rfl⟩
end
end Go.Proofs.YtgddkgbidhhheaaGreatDoor
set_option linter.unusedVariables false
set_option linter.unusedSimpArgs false
set_option maxRecDepth 100000
namespace Go.Proofs.YtgddkgbidhhheaaGreatDoor
open Go.RowKit Flo Ab Mk Pg
section
variable {G:World→Prop} {l:Lim} {E:Int→Int→Prop} {n:Int} {Q:Res→Prop} {vs:List Vl} {is:List It} {L:Nat}
def OutL (l:Lim) (job:Int→List M→Job) (n:Int) (ms:List M) (x:AV) (cs:List AV):Prop:=∃ e ms',P l (job n ms) (.ok [.e e] ms')∧x=exA e∧Mz ms'∧ms'.length < ms.length∧cs=prs l ms' n
theorem lword_ok (hX:HXL G l L) (hn:0≤n) {m:M} {r:List M} (hz:Mz (m :: r)) (hk:m.kind=1) (hlt:(m :: r).length≤L) (hb:n + (m :: r).length≤50000) (hE:∀ w p,P l (.unit n (m :: r)) (.bad w p)→E w p):AM Tryz.prog (Gl G l E) 146 [.ptr 0 0,.agg (mcells m)] (prs l (m :: r) n) (OutL l .unit n (m :: r)):=by
 have hk':(m.kind:Int)=1:=by omega
 have hz2:=hz.tail (by omega)
 have hlen:(m :: r).length=r.length + 1:=by simp
 refine AM.go hmix F_lword (by simp) ?_
 simp -implicitDefEqProofs [c_lword,mcells,hk',wrOb,splice,evP,fillA]
 by_cases h1:m.text=tTrue
 ·have hop:word0 m=some 2:=by unfold word0; rw [if_pos (isW_of hk h1)]
  simp -implicitDefEqProofs [h1,wrOb,splice]
  refine SC.pr (by simp) [.ptr 0 0] (by simp) (ms:=m :: r) (n:=n) (by simp) (lstep_ap m r n) (by simp [toO]) ⟨0,by simp⟩ (by simp [lentO]) ?_ (tg:=.mk)
  rintro x cs - ⟨rfl,rfl⟩
  simp -implicitDefEqProofs [wrOb,splice,finM]
  exact ⟨by simp [prs],.mk 2 [] [] 0 (0,0) [] m.pos,r,.word0 _ _ hop,by simp [exA,Ex.cells,exsA,W0],hz2,by simp,rfl⟩
 have b1:=beq_eq_false_iff_ne.2 h1
 by_cases h2:m.text=tFalse
 ·have hop:word0 m=some 3:=by unfold word0; rw [isW_not h1,isW_of hk h2]; rfl
  simp -implicitDefEqProofs [h2,wrOb,splice]
  refine SC.pr (by simp) [.ptr 0 0] (by simp) (ms:=m :: r) (n:=n) (by simp) (lstep_ap m r n) (by simp [toO]) ⟨0,by simp⟩ (by simp [lentO]) ?_ (tg:=.mk)
  rintro x cs - ⟨rfl,rfl⟩
  simp -implicitDefEqProofs [wrOb,splice,finM]
  exact ⟨by simp [prs],.mk 3 [] [] 0 (0,0) [] m.pos,r,.word0 _ _ hop,by simp [exA,Ex.cells,exsA,W0],hz2,by simp,rfl⟩
 have b2:=beq_eq_false_iff_ne.2 h2
 by_cases h3:m.text=tNil
 ·have hop:word0 m=some 4:=by unfold word0; rw [isW_not h1,isW_not h2,isW_of hk h3]; rfl
  simp -implicitDefEqProofs [h3,wrOb,splice]
  refine SC.pr (by simp) [.ptr 0 0] (by simp) (ms:=m :: r) (n:=n) (by simp) (lstep_ap m r n) (by simp [toO]) ⟨0,by simp⟩ (by simp [lentO]) ?_ (tg:=.mk)
  rintro x cs - ⟨rfl,rfl⟩
  simp -implicitDefEqProofs [wrOb,splice,finM]
  exact ⟨by simp [prs],.mk 4 [] [] 0 (0,0) [] m.pos,r,.word0 _ _ hop,by simp [exA,Ex.cells,exsA,W0],hz2,by simp,rfl⟩
 have b3:=beq_eq_false_iff_ne.2 h3
 by_cases h4:m.text=tFail
 ·have hf:=isW_of hk h4
  have hS:=SqL.new (l:=l) (n:=n) (its:=[.ty]) hz2
  simp -implicitDefEqProofs [h4]
  refine SC.pr (by simp) [.ptr 0 0] (by simp) (ms:=m :: r) (n:=n) (by simp) (lstep_ap m r n) (by simp [toO]) ⟨0,by simp⟩ (by simp [lentO]) ?_ (tg:=.mk)
  rintro x cs - ⟨rfl,rfl⟩
  simp -implicitDefEqProofs [wrOb,splice,farP]
  refine XC.pr [.ptr 0 0] (by simp) (ms:=r) (n:=n) (by first | simp | omega) (by simp [coverQ]) (by simp) (ltyp_sq hS (fun w p h=>hE w p (.fail hf h))) (by simp [toO]) ⟨0,by simp⟩ (by simp [lentO]) ?_ (tg:=.mk)
  rintro x cs - ⟨t,ms1,rfl,rfl,hS1,hl1⟩
  simp -implicitDefEqProofs [wrOb,splice,evP,fillA,finM]
  exact ⟨by simp [prs],.mk 5 [] [] t (0,0) [] m.pos,ms1,.fail hf hS1.end,by simp [exA,Ex.cells,exsA,W0],hS1.1,by simp only [List.length_cons]; omega,rfl⟩
 have b4:=beq_eq_false_iff_ne.2 h4
 by_cases h5:m.text=tNot
 ·have hop:word1 m=some 14:=by unfold word1; rw [if_pos (isW_of hk h5)]
  have hS:=SqL.new (l:=l) (n:=n) (its:=[.w sOpen,.e,.w sClose]) hz2
  have hE':∀ w p,P l (.seq n [.w sOpen,.e,.w sClose] r) (.bad w p)→E w p:=fun w p h=>hE w p (.word1 hop h)
  simp -implicitDefEqProofs [h5,wrOb,splice]
  refine SC.pr (by simp) [.ptr 0 0] (by simp) (ms:=m :: r) (n:=n) (by simp) (lstep_ap m r n) (by simp [toO]) ⟨0,by simp⟩ (by simp [lentO]) ?_ (tg:=.mk)
  rintro x cs - ⟨rfl,rfl⟩
  simp -implicitDefEqProofs [wrOb,splice,evP,fillA]
  refine SC.pr (by simp) [.ptr 0 0,.row 4] (by simp) (ms:=r) (n:=n) (by simp) (lmust1 sOpen hS hE') (by simp [toO]) ⟨0,by simp⟩ (by simp [lentO]) ?_ (tg:=.mk)
  rintro x cs - ⟨rfl,ms1,rfl,hS1,hl1⟩
  simp -implicitDefEqProofs
  refine SC.pr (by simp) [.ptr 0 0] (by simp) (ms:=ms1) (n:=n) (by simp) (lexpr_sq hX hn hS1 (by omega) (by omega) hE') (by simp [toO]) ⟨0,by simp⟩ (by simp [lentO]) ?_ (tg:=.mk)
  rintro x cs - ⟨e,ms2,rfl,rfl,hS2,hl2⟩
  obtain ⟨o,nm,tl,ty,num,args,pos⟩:=e
  simp -implicitDefEqProofs [exA,Ex.cells,wrOb,splice,evP,fillA]
  refine SC.pr (by simp) [.ptr 0 0,.row 6] (by simp) (ms:=ms2) (n:=n) (by simp) (lmust1 sClose hS2 hE') (by simp [toO]) ⟨0,by simp⟩ (by simp [lentO]) ?_ (tg:=.mk)
  rintro x cs - ⟨rfl,ms3,rfl,hS3,hl3⟩
  simp -implicitDefEqProofs [exA,Ex.cells,wrOb,splice,evP,fillA,finM]
  exact ⟨by simp [prs],.mk 14 [] [] 0 (0,0) [.mk o nm tl ty num args pos] m.pos,ms3,.word1 hop hS3.end,by simp [exA,Ex.cells,exsA,W0],hS3.1,by simp only [List.length_cons]; omega,rfl⟩
 have b5:=beq_eq_false_iff_ne.2 h5
 by_cases h6:m.text=tRe
 ·have hop:word1 m=some 15:=by unfold word1; rw [isW_not h5,isW_of hk h6]; rfl
  have hS:=SqL.new (l:=l) (n:=n) (its:=[.w sOpen,.e,.w sClose]) hz2
  have hE':∀ w p,P l (.seq n [.w sOpen,.e,.w sClose] r) (.bad w p)→E w p:=fun w p h=>hE w p (.word1 hop h)
  simp -implicitDefEqProofs [h6,wrOb,splice]
  refine SC.pr (by simp) [.ptr 0 0] (by simp) (ms:=m :: r) (n:=n) (by simp) (lstep_ap m r n) (by simp [toO]) ⟨0,by simp⟩ (by simp [lentO]) ?_ (tg:=.mk)
  rintro x cs - ⟨rfl,rfl⟩
  simp -implicitDefEqProofs [wrOb,splice,evP,fillA]
  refine SC.pr (by simp) [.ptr 0 0,.row 4] (by simp) (ms:=r) (n:=n) (by simp) (lmust1 sOpen hS hE') (by simp [toO]) ⟨0,by simp⟩ (by simp [lentO]) ?_ (tg:=.mk)
  rintro x cs - ⟨rfl,ms1,rfl,hS1,hl1⟩
  simp -implicitDefEqProofs
  refine SC.pr (by simp) [.ptr 0 0] (by simp) (ms:=ms1) (n:=n) (by simp) (lexpr_sq hX hn hS1 (by omega) (by omega) hE') (by simp [toO]) ⟨0,by simp⟩ (by simp [lentO]) ?_ (tg:=.mk)
  rintro x cs - ⟨e,ms2,rfl,rfl,hS2,hl2⟩
  obtain ⟨o,nm,tl,ty,num,args,pos⟩:=e
  simp -implicitDefEqProofs [exA,Ex.cells,wrOb,splice,evP,fillA]
  refine SC.pr (by simp) [.ptr 0 0,.row 6] (by simp) (ms:=ms2) (n:=n) (by simp) (lmust1 sClose hS2 hE') (by simp [toO]) ⟨0,by simp⟩ (by simp [lentO]) ?_ (tg:=.mk)
  rintro x cs - ⟨rfl,ms3,rfl,hS3,hl3⟩
  simp -implicitDefEqProofs [exA,Ex.cells,wrOb,splice,evP,fillA,finM]
  exact ⟨by simp [prs],.mk 15 [] [] 0 (0,0) [.mk o nm tl ty num args pos] m.pos,ms3,.word1 hop hS3.end,by simp [exA,Ex.cells,exsA,W0],hS3.1,by simp only [List.length_cons]; omega,rfl⟩
 have b6:=beq_eq_false_iff_ne.2 h6
 by_cases h7:m.text=tIm
 ·have hop:word1 m=some 16:=by unfold word1; rw [isW_not h5,isW_not h6,isW_of hk h7]; rfl
  have hS:=SqL.new (l:=l) (n:=n) (its:=[.w sOpen,.e,.w sClose]) hz2
  have hE':∀ w p,P l (.seq n [.w sOpen,.e,.w sClose] r) (.bad w p)→E w p:=fun w p h=>hE w p (.word1 hop h)
  simp -implicitDefEqProofs [h7,wrOb,splice]
  refine SC.pr (by simp) [.ptr 0 0] (by simp) (ms:=m :: r) (n:=n) (by simp) (lstep_ap m r n) (by simp [toO]) ⟨0,by simp⟩ (by simp [lentO]) ?_ (tg:=.mk)
  rintro x cs - ⟨rfl,rfl⟩
  simp -implicitDefEqProofs [wrOb,splice,evP,fillA]
  refine SC.pr (by simp) [.ptr 0 0,.row 4] (by simp) (ms:=r) (n:=n) (by simp) (lmust1 sOpen hS hE') (by simp [toO]) ⟨0,by simp⟩ (by simp [lentO]) ?_ (tg:=.mk)
  rintro x cs - ⟨rfl,ms1,rfl,hS1,hl1⟩
  simp -implicitDefEqProofs
  refine SC.pr (by simp) [.ptr 0 0] (by simp) (ms:=ms1) (n:=n) (by simp) (lexpr_sq hX hn hS1 (by omega) (by omega) hE') (by simp [toO]) ⟨0,by simp⟩ (by simp [lentO]) ?_ (tg:=.mk)
  rintro x cs - ⟨e,ms2,rfl,rfl,hS2,hl2⟩
  obtain ⟨o,nm,tl,ty,num,args,pos⟩:=e
  simp -implicitDefEqProofs [exA,Ex.cells,wrOb,splice,evP,fillA]
  refine SC.pr (by simp) [.ptr 0 0,.row 6] (by simp) (ms:=ms2) (n:=n) (by simp) (lmust1 sClose hS2 hE') (by simp [toO]) ⟨0,by simp⟩ (by simp [lentO]) ?_ (tg:=.mk)
  rintro x cs - ⟨rfl,ms3,rfl,hS3,hl3⟩
  simp -implicitDefEqProofs [exA,Ex.cells,wrOb,splice,evP,fillA,finM]
  exact ⟨by simp [prs],.mk 16 [] [] 0 (0,0) [.mk o nm tl ty num args pos] m.pos,ms3,.word1 hop hS3.end,by simp [exA,Ex.cells,exsA,W0],hS3.1,by simp only [List.length_cons]; omega,rfl⟩
 have b7:=beq_eq_false_iff_ne.2 h7
 by_cases h8:m.text=tConj
 ·have hop:word1 m=some 17:=by unfold word1; rw [isW_not h5,isW_not h6,isW_not h7,isW_of hk h8]; rfl
  have hS:=SqL.new (l:=l) (n:=n) (its:=[.w sOpen,.e,.w sClose]) hz2
  have hE':∀ w p,P l (.seq n [.w sOpen,.e,.w sClose] r) (.bad w p)→E w p:=fun w p h=>hE w p (.word1 hop h)
  simp -implicitDefEqProofs [h8,wrOb,splice]
  refine SC.pr (by simp) [.ptr 0 0] (by simp) (ms:=m :: r) (n:=n) (by simp) (lstep_ap m r n) (by simp [toO]) ⟨0,by simp⟩ (by simp [lentO]) ?_ (tg:=.mk)
  rintro x cs - ⟨rfl,rfl⟩
  simp -implicitDefEqProofs [wrOb,splice,evP,fillA]
  refine SC.pr (by simp) [.ptr 0 0,.row 4] (by simp) (ms:=r) (n:=n) (by simp) (lmust1 sOpen hS hE') (by simp [toO]) ⟨0,by simp⟩ (by simp [lentO]) ?_ (tg:=.mk)
  rintro x cs - ⟨rfl,ms1,rfl,hS1,hl1⟩
  simp -implicitDefEqProofs
  refine SC.pr (by simp) [.ptr 0 0] (by simp) (ms:=ms1) (n:=n) (by simp) (lexpr_sq hX hn hS1 (by omega) (by omega) hE') (by simp [toO]) ⟨0,by simp⟩ (by simp [lentO]) ?_ (tg:=.mk)
  rintro x cs - ⟨e,ms2,rfl,rfl,hS2,hl2⟩
  obtain ⟨o,nm,tl,ty,num,args,pos⟩:=e
  simp -implicitDefEqProofs [exA,Ex.cells,wrOb,splice,evP,fillA]
  refine SC.pr (by simp) [.ptr 0 0,.row 6] (by simp) (ms:=ms2) (n:=n) (by simp) (lmust1 sClose hS2 hE') (by simp [toO]) ⟨0,by simp⟩ (by simp [lentO]) ?_ (tg:=.mk)
  rintro x cs - ⟨rfl,ms3,rfl,hS3,hl3⟩
  simp -implicitDefEqProofs [exA,Ex.cells,wrOb,splice,evP,fillA,finM]
  exact ⟨by simp [prs],.mk 17 [] [] 0 (0,0) [.mk o nm tl ty num args pos] m.pos,ms3,.word1 hop hS3.end,by simp [exA,Ex.cells,exsA,W0],hS3.1,by simp only [List.length_cons]; omega,rfl⟩
 have b8:=beq_eq_false_iff_ne.2 h8
 have hbad:P l (.unit n (m :: r)) (.bad 21 m.pos):=.unitBad _ _ (by omega) (by omega) (isW_not (fun e=>absurd ((hz.txt m (by simp)).1 hk) (by rw [e]; decide))) (by unfold word0; rw [isW_not h1,isW_not h2,isW_not h3]; rfl) (isW_not h4) (by unfold word1; rw [isW_not h5,isW_not h6,isW_not h7,isW_not h8]; rfl)
 simp -implicitDefEqProofs [b1,b2,b3,b4,b5,b6,b7,b8]
 refine SC.pr (by simp) [.ptr 0 0,iv 21] (by simp) (ms:=m :: r) (n:=n) (by simp) (lgive_ap m r n 21 (hE _ _ hbad)) (by simp [toO]) ⟨0,by simp⟩ (by simp [lentO]) ?_ (tg:=.mk)
 rintro x cs - hf
 exact hf.elim
end
end Go.Proofs.YtgddkgbidhhheaaGreatDoor
set_option linter.unusedVariables false
set_option linter.unusedSimpArgs false
set_option maxRecDepth 100000
namespace Go.Proofs.YtgddkgbidhhheaaGreatDoor
open Go.RowKit Flo Ab Mk Pg
section
variable {G:World→Prop} {l:Lim} {E:Int→Int→Prop} {n:Int} {Q:Res→Prop} {vs:List Vl} {is:List It} {L:Nat}
theorem lunit_ok (hX:HXL G l L) (hn:0≤n) {ms:List M} (hz:Mz ms) (hlt:ms.length≤L) (hb:n + ms.length≤50000) (hE:∀ w p,P l (.unit n ms) (.bad w p)→E w p):AM Tryz.prog (Gl G l E) 129 [.ptr 0 0] (prs l ms n) (OutL l .unit n ms):=by
 obtain ⟨m,r,rfl⟩:=hz.cons
 have hlen:(m :: r).length=r.length + 1:=by simp
 refine AM.go hmix F_lunit (by simp) ?_
 simp -implicitDefEqProofs [c_lunit]
 refine SC.pr (by simp) [.ptr 0 0] (by simp) (ms:=m :: r) (n:=n) (by simp) (lnext_ap m r n) (by simp [toO]) ⟨0,by simp⟩ (by simp [lentO]) ?_ (tg:=.mk)
 rintro x cs - ⟨rfl,rfl⟩
 by_cases k2:m.kind=2
 ·have k2':(m.kind:Int)=2:=by omega
  have hz2:=hz.tail (by omega)
  simp -implicitDefEqProofs [mcells,wrOb,splice,k2']
  refine SC.pr (by simp) [.ptr 0 0] (by simp) (ms:=m :: r) (n:=n) (by simp) (lstep_ap m r n) (by simp [toO]) ⟨0,by simp⟩ (by simp [lentO]) ?_ (tg:=.mk)
  rintro x cs - ⟨rfl,rfl⟩
  simp -implicitDefEqProofs [wrOb,splice,evP,fillA,finM]
  exact ⟨by simp [prs],.mk 1 [] [] 0 m.num [] m.pos,r,.num _ _ k2,by simp [exA,Ex.cells,exsA],hz2,by simp,rfl⟩
 have k2':¬ (m.kind:Int)=2:=by omega
 by_cases k0:m.kind=0
 ·have k0':(m.kind:Int)=0:=by omega
  have hz2:=hz.tail (by omega)
  obtain ⟨k,r2,rfl⟩:=hz2.cons
  obtain ⟨q,hq⟩:∃ q,isW k sOpen=q:=⟨_,rfl⟩
  have hmay:=lmay_ap (G:=G) (l:=l) (E:=E) sOpen k r2 n
  rw [hq] at hmay
  simp -implicitDefEqProofs [mcells,wrOb,splice,k0']
  refine SC.pr (by simp) [.ptr 0 0] (by simp) (ms:=m :: k :: r2) (n:=n) (by simp) (lstep_ap m (k :: r2) n) (by simp [toO]) ⟨0,by simp⟩ (by simp [lentO]) ?_ (tg:=.mk)
  rintro x cs - ⟨rfl,rfl⟩
  simp -implicitDefEqProofs
  refine SC.pr (by simp) [.ptr 0 0,sv sOpen] (by simp) (ms:=k :: r2) (n:=n) (by simp) (hmay) (by simp [toO]) ⟨0,by simp⟩ (by simp [lentO]) ?_ (tg:=.mk)
  rintro x cs - ⟨rfl,rfl⟩
  cases q
  ·simp -implicitDefEqProofs [wrOb,splice,evP,fillA,finM]
   exact ⟨by simp [prs],.mk 6 m.text [] 0 (0,0) [] m.pos,k :: r2,.var _ _ k0 hq,by simp [exA,Ex.cells,exsA,W0],hz2,by simp,rfl⟩
  ·have hz3:=hz2.tail (isW_kind hq).2.2
   simp only [List.length_cons] at hlt hb
   have hli:=llist_ok (E:=E) hX hn hz3 (by omega) (by omega) (fun w p h=>hE w p (.call k0 hq h))
   simp -implicitDefEqProofs [wrOb,splice,evP,fillA,farP]
   refine XC.pr [.ptr 0 0] (by simp) (ms:=r2) (n:=n) (by first | simp | omega) (by simp [coverQ]) (by simp) (hli) (by simp [toO]) ⟨0,by simp⟩ (by simp [lentO]) ?_ (tg:=.mk)
   rintro x cs - ⟨us,ms',hP,rfl,hz',hl',rfl⟩
   simp -implicitDefEqProofs [wrOb,splice,evP,fillA,finM]
   exact ⟨by simp [prs],.mk 7 m.text [] 0 (0,0) us m.pos,ms',.call k0 hq hP,by simp [exA,Ex.cells,W0],hz',by simp only [List.length_cons]; omega,rfl⟩
 have k0':¬ (m.kind:Int)=0:=by omega
 by_cases k1:m.kind=1
 ·have k1':(m.kind:Int)=1:=by omega
  have hwo:=lword_ok (G:=G) (E:=E) hX hn hz k1 hlt hb hE
  have hmc:mcells m=[iv 1,sv m.text,cv (W m.num.1) (W m.num.2),iv m.pos]:=by simp [mcells,k1']
  rw [hmc] at hwo
  simp -implicitDefEqProofs [mcells,wrOb,splice,k1']
  refine SC.pr (by simp) [.ptr 0 0,.agg [iv 1,sv m.text,cv (W m.num.1) (W m.num.2),iv m.pos]] (by simp) (ms:=m :: r) (n:=n) (by simp) (hwo) (by simp [toO]) ⟨0,by simp⟩ (by simp [lentO]) ?_ (tg:=.mk)
  rintro x cs - hO
  have hO':=hO
  obtain ⟨e,ms',hP,rfl,hz',hl',rfl⟩:=hO
  obtain ⟨o,nm,tl,ty,num,args,pos⟩:=e
  simp -implicitDefEqProofs [exA,Ex.cells,wrOb,splice,finM]
  exact ⟨by simp [prs],hO'⟩
 have k1':¬ (m.kind:Int)=1:=by omega
 simp only [List.length_cons] at hlt hb
 have hpar:isW m sOpen=true→∀ w p,P l (.seq n [.e,.w sClose] r) (.bad w p)→E w p:=fun hq w p h=>hE w p (.par hq h)
 obtain ⟨q,hq⟩:∃ q,isW m sOpen=q:=⟨_,rfl⟩
 have hS0:SqL l n (fun r0=>P l (.unit n (m :: r)) (match r0 with | .ok vs ms'=>.ok (parEx vs.tail) ms' | .bad w p=>.bad w p)) [] [.w sOpen,.e,.w sClose] (m :: r):=by
  refine ⟨hz,fun r0 hr0=>?_⟩
  cases hr0 with
  | w hq hr=>
   rename_i r1
   have:=P.par hq hr
   cases r1<;>exact this
  | wBad _ _ _ hq=>
   have key:∀ s ∈ resv,isW m s=false:=fun s hs=>isW_resv (hz.txt m (by simp)) hs k1
   refine .unitBad _ _ k2 k0 hq ?_ (key _ (by decide)) ?_
   ·unfold word0; rw [key _ (by decide),key _ (by decide),key _ (by decide)]; rfl
   ·unfold word1; rw [key _ (by decide),key _ (by decide),key _ (by decide),key _ (by decide)]; rfl
 have hE0:∀ w p,P l (.unit n (m :: r)) (.bad w p)→E w p:=hE
 simp -implicitDefEqProofs [mcells,wrOb,splice,k1',k0',k2',k0,k1,k2,evP,fillA]
 refine SC.pr (by simp) [.ptr 0 0,.row 3] (by simp) (ms:=m :: r) (n:=n) (by simp) (lmust1 sOpen hS0 hE0) (by simp [toO]) ⟨0,by simp⟩ (by simp [lentO]) ?_ (tg:=.mk)
 rintro x cs - ⟨rfl,ms1,rfl,hS1,hl1⟩
 simp only [List.length_cons] at hl1
 simp -implicitDefEqProofs
 refine SC.pr (by simp) [.ptr 0 0] (by simp) (ms:=ms1) (n:=n) (by simp) (lexpr_sq hX hn hS1 (by omega) (by omega) hE0) (by simp [toO]) ⟨0,by simp⟩ (by simp [lentO]) ?_ (tg:=.mk)
 rintro x cs - ⟨e,ms2,rfl,rfl,hS2,hl2⟩
 obtain ⟨o,nm,tl,ty,num,args,pos⟩:=e
 simp -implicitDefEqProofs [exA,Ex.cells,wrOb,splice,evP,fillA]
 refine SC.pr (by simp) [.ptr 0 0,.row 5] (by simp) (ms:=ms2) (n:=n) (by simp) (lmust1 sClose hS2 hE0) (by simp [toO]) ⟨0,by simp⟩ (by simp [lentO]) ?_ (tg:=.mk)
 rintro x cs - ⟨rfl,ms3,rfl,hS3,hl3⟩
 simp -implicitDefEqProofs [exA,Ex.cells,wrOb,splice,evP,fillA,finM]
 exact ⟨by simp [prs],.mk o nm tl ty num args pos,ms3,hS3.end,by simp [exA,Ex.cells],hS3.1,by simp only [List.length_cons]; omega,rfl⟩
end
end Go.Proofs.YtgddkgbidhhheaaGreatDoor
