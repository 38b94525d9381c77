/- Texts joined: Lnm CdM Prn. -/
import Derived.Test.YtgddkgbidhhheaaGreatDoorKtbc
import Derived.Test.YtgddkgbidhhheaaGreatDoorKtbf
import Derived.Test.YtgddkgbidhhheaaGreatDoorKtbd
import Derived.Test.YtgddkgbidhhheaaGreatDoorKtam
import Derived.Test.YtgddkgbidhhheaaGreatDoorProg
import Derived.KernelRfl
import Derived.Test.YtgddkgbidhhheaaGreatDoorKtbb
set_option linter.unusedVariables false
set_option linter.unusedSimpArgs false
set_option maxRecDepth 100000
namespace Go.Proofs.YtgddkgbidhhheaaGreatDoor
open Go.RowKit Flo Ab Mk Pg
def GmL (w:World):Prop:=Inv w∧Spc w
def LMarks (R:Except Nat (List M)) (x:AV):Prop:=(∃ ms,R=.ok ms∧x=.tup [.sl ms.length (mksA ms),.agg [iv 0,iv 0]])∨∃ a:Nat,R=.error a∧x=.tup [.v (.slice none 0 0),.agg [iv 20,iv a]]
theorem lmarks_ap (t:List UInt8) (ht:t.length≤16777216):AP Tryz.prog GmL 16 [.sl t.length (t.map byA)] (LMarks (scan t 0)):=by
 intro w0 w M vs hG hb hM h
 obtain ⟨u,rfl,hr⟩:=vs1 h
 obtain ⟨p,c,rfl,hc,hT⟩:=hr.txt rfl rfl
 refine (marks_any p c t hc ht w hT (hG.1.below hb) (hG.2.below' hb)).mono ?_
 rintro e w' ⟨hR,hb'⟩
 rcases hR with ⟨ms,v,hR,rfl,hown⟩ | ⟨a,hR,rfl⟩
 ·exact ⟨_,_,rfl,hb',rd_two (rd_marks hM hown) (rd_pair rfl rfl),.inl ⟨ms,hR,rfl⟩⟩
 ·exact ⟨_,_,rfl,hb',rd_two (.v _ rfl) (rd_pair rfl rfl),.inr ⟨a,hR,rfl⟩⟩
theorem map_bad' {f:List Vl→List Vl} {r:Res} {w p:Int} (h:r.map f=.bad w p):r=.bad w p:=by
 cases r with
 | ok vs ms=>cases h
 | bad a b=>exact h
theorem bad_why {l:Lim} {j:Job} {r:Res} (h:P l j r):∀ w p,r=.bad w p→w≠0:=by
 induction h<;>intro w p e<;>first
  | (cases e; done)
  | (cases e; omega)
  | (cases e; rename_i ih; exact ih _ _ rfl)
  | (rename_i ih; exact ih _ _ e)
  | (rename_i ih; exact ih _ _ (Res.cons_bad e))
  | (rename_i ih; exact ih _ _ (map_bad' e))
def jmsL:Job→List M
 | .seq _ _ ms=>ms
 | .expr _ ms=>ms
 | .row _ _ ms=>ms
 | .tail _ _ _ ms=>ms
 | .unit _ ms=>ms
 | .args _ _ ms=>ms
 | .pars _ ms=>ms
 | .prog _ ms=>ms
theorem cons_ok' {v:Vl} {r:Res} {vs:List Vl} {ms:List M} (h:r.cons v=.ok vs ms):∃ us,r=.ok us ms:=by
 cases r with
 | ok us ms'=>cases h; exact ⟨us,rfl⟩
 | bad a b=>cases h
theorem map_ok' {f:List Vl→List Vl} {r:Res} {vs:List Vl} {ms:List M} (h:r.map f=.ok vs ms):∃ us,r=.ok us ms:=by
 cases r with
 | ok us ms'=>cases h; exact ⟨us,rfl⟩
 | bad a b=>cases h
theorem P_suf {l:Lim} {j:Job} {r:Res} (h:P l j r):∀ vs ms',r=.ok vs ms'→ms' <:+ jmsL j:=by
 induction h<;>intro vs ms' e
 all_goals first
  | (cases e; done)
  | (cases e; exact List.suffix_refl _)
  | (cases e; exact List.suffix_cons _ _)
  | (obtain ⟨us,rfl⟩:=cons_ok' e; rename_i ih; exact (ih _ _ rfl).trans (List.suffix_cons _ _))
  | (obtain ⟨us,rfl⟩:=map_ok' e; rename_i ih; exact (ih _ _ rfl).trans (List.suffix_cons _ _))
  | (obtain ⟨us,rfl⟩:=map_ok' e; rename_i ih; exact (ih _ _ rfl).trans ((List.suffix_cons _ _).trans (List.suffix_cons _ _)))
  | (obtain ⟨us,rfl⟩:=cons_ok' e; rename_i ih1 ih2; exact (ih2 _ _ rfl).trans (ih1 _ _ rfl))
  | (rename_i ih; exact ih _ _ e)
  | (rename_i ih1 ih2; exact (ih2 _ _ e).trans (ih1 _ _ rfl))
  | (rename_i ih1 ih2; exact (ih2 _ _ e).trans ((ih1 _ _ rfl).trans (List.suffix_cons _ _)))
  | (rename_i ih; cases e; exact (ih _ _ rfl).trans (List.suffix_cons _ _))
  | (rename_i ih1 _ ih2; exact (ih2 _ _ e).trans (ih1 _ _ rfl))
  | (obtain ⟨us,rfl⟩:=cons_ok' e; rename_i ih1 _ ih2; exact (ih2 _ _ rfl).trans (ih1 _ _ rfl))
  | (obtain ⟨us,rfl⟩:=cons_ok' e; rename_i ih2 ih1; exact (ih2 _ _ rfl).trans (ih1 _ _ rfl))
  | (obtain ⟨us,rfl⟩:=cons_ok' e; trace_state)
@[reducible] def Gp4 (E:Int→Int→Prop):Gs:=⟨GmL,fun x H=>∃ (w p:Int) (c1:List AV) (c2:List AV),x=faultA w p∧E w p∧H[1]? = some (.var [.v (.slice none 0 0)])∧H[2]? = some (.var [iv 0,iv 0]),fun t=>if t=4 then some (.ptr 1 0) else if t=5 then some (.ptr 2 0) else none⟩
theorem lparse1_pan {H:List Ob} {w p:Int} (h1:H[1]? = some (.var [.v (.slice none 0 0)])) (h2:H[2]? = some (.var [iv 0,iv 0])) {K:AMode→List Ob→Prop} (hK:∀ H':List Ob,H'[1]? = some (.var [.v (.slice none 0 0)])→H'[2]? = some (.var [iv w,iv p])→K .ret H') :
  Settle Tryz.prog (.np GmL) [(33,[.ptr 1 0,.ptr 2 0])] (.pan (faultA w p)) H K:=by
 have hl1:1 < H.length:=(List.getElem?_eq_some_iff.1 h1).1
 have hl2:2 < H.length:=(List.getElem?_eq_some_iff.1 h2).1
 have g1:∀ Y,(H++Y)[1]? = some (.var [.v (.slice none 0 0)]):=fun Y=>(List.getElem?_append_left hl1).trans h1
 have g2:∀ Y,(H++Y)[2]? = some (.var [iv 0,iv 0]):=fun Y=>(List.getElem?_append_left hl2).trans h2
 have k2:∀ o Y,(H.set 1 o++Y)[2]? = some (.var [iv 0,iv 0]):=fun o Y=>by rw [List.getElem?_append_left (by simpa using hl2),List.getElem?_set_ne (by omega)]; exact h2
 have hfar:¬ 1=H.length:=by omega
 unfold Settle
 refine DAC.goR hmix F_lParse1 (fun _ _ h=>h) (by simp) ?_
 simp -implicitDefEqProofs [c_lParse1,c_lParse1_ops,faultA,wrOb,splice,evP,fillA,g1,g2,k2,farP,hfar,hl1,hl2,-getElem?_pos,Settle]
 refine hK _ ?_ ?_
 ·rw [List.getElem?_append_left (by simpa using hl1),List.getElem?_set_ne (by omega),List.getElem?_set_self hl1]
 ·rw [List.getElem?_append_left (by simpa using hl2),List.getElem?_set_self (by simpa using hl2)]
theorem lparse1_ret {H:List Ob} {K:AMode→List Ob→Prop} (hK:∀ Y,K .ret (H++Y)) :
  Settle Tryz.prog (.np GmL) [(33,[.ptr 1 0,.ptr 2 0])] .ret H K:=by
 unfold Settle
 refine DAC.goR hmix F_lParse1 (fun _ _ h=>h) (by simp) ?_
 simp -implicitDefEqProofs [c_lParse1,c_lParse1_ops,wrOb,splice,evP,fillA,Settle]
 exact hK _
def LpE (t:List UInt8) (L:Lim) (w p:Int):Prop:=t.length≤limT L∧∃ ms,scan t 0=.ok ms∧P { L with text:=limT L } (.prog [] ms) (.bad w p)
theorem Mz.scan {t:List UInt8} {ms:List M} (ht:t.length≤32768) (h:scan t 0=.ok ms):Mz ms:=by
 obtain ⟨hk,hpos⟩:=Mks.scan ht h
 have hlen:=scan_len _ t 0 ms (Nat.lt_succ_self _) h
 refine ⟨by omega,hk.fin,fun e=>by subst e; simp at hpos,fun m hm=>?_⟩
 obtain ⟨ts,e,rfl,hT⟩:=scan_toks _ t 0 ms (Nat.lt_succ_self _) h
 rcases List.mem_append.1 hm with h1 | h1
 ·obtain ⟨c,r,a,ho,_,_⟩:=hT m h1
  exact (one_kind ho).2.1
 ·rw [List.mem_singleton.1 h1]
  constructor<;>intro h<;>revert h<;>simp<;>decide
theorem keepP {E:Int→Int→Prop} {F:Fr} (h4:F 4=some (.ptr 1 0)) (h5:F 5=some (.ptr 2 0)) {pre post:List AOper} {d:Option Nat} (hp:∀ o ∈ pre++post,∀ t,o.dst=some t→t≠4∧t≠5) (hd:∀ t,d=some t→t≠4∧t≠5):KeepD (Gp4 E) pre post d F:=by
 have none:∀ t,t≠4∧t≠5→(Gp4 E).keep t=Option.none:=fun t h=>by
  show (if t=4 then some (AV.ptr 1 0) else if t=5 then some (AV.ptr 2 0) else Option.none)=Option.none
  rw [if_neg h.1,if_neg h.2]
 refine ⟨fun t x h=>?_,fun o ho t ht=>none t (hp o ho t ht),fun t ht=>none t (hd t ht)⟩
 by_cases e4:t=4
 ·subst e4; cases h; exact h4
 ·by_cases e5:t=5
  ·subst e5; cases h; exact h5
  ·rw [none t ⟨e4,e5⟩] at h; cases h
theorem lparse_ap (t:List UInt8) (L:Lim):AP Tryz.prog GmL 20 [.sl t.length (t.map byA),.agg [iv L.text,iv L.funcs,iv L.arity,iv L.nest]] (ParseR t L):=by
 have hl:∀ (i1 i2:Decidable (L.text < 0)) (i3:Decidable ((32768:Int) < @ite Int (L.text < 0) i1 0 L.text)),@ite Int ((32768:Int) < @ite Int (L.text < 0) i1 0 L.text) i3 32768 (@ite Int (L.text < 0) i2 0 L.text)=limT L:=by
  intro i1 i2 i3
  unfold limT
  split<;>split<;>omega
 have hl2:0≤limT L∧limT L≤32768:=by unfold limT; omega
 refine AP.ofAC (AC.goV (G:=.np GmL) hmix F_lParse (Gi:=Gp4 (LpE t L)) (okD:=fun ls=>ls=[(33,[.ptr 1 0,.ptr 2 0])]) (fun _ h=>h) (by simp) ?_ ?_)
 ·rintro ls x H rfl ⟨w,p,c1,c2,rfl,hE,h1,h2⟩
  refine lparse1_pan h1 h2 (fun H' h1' h2'=>.inl ⟨rfl,?_⟩)
  simp -implicitDefEqProofs [h1',h2']
  obtain ⟨hlt,ms,hms,hP⟩:=hE
  exact .inr ⟨hlt,.inr ⟨ms,hms,.inr ⟨w,p,bad_why hP _ _ rfl,hP,rfl⟩⟩⟩
 ·simp -implicitDefEqProofs [c_lParse,wrOb,splice,evL,mmF,hl]
  by_cases hbig:limT L < t.length
  ·simp -implicitDefEqProofs [hbig,wrOb,splice,evP,fillA,farP,sLdd,endR_nil]
   exact .inl ⟨hbig,rfl⟩
  ·have hsm:(t.length:Int)≤limT L:=by omega
   have hsm':¬ limT L < t.length:=hbig
   simp -implicitDefEqProofs [hbig]
   refine SC.frz (by simp) [.sl t.length (t.map byA)] (by simp) (post:=LMarks (scan t 0)) (by simpa using lmarks_ap t (by omega)) (by simp) ?_ (a:=.mk)
   rintro x (⟨ms,hms,rfl⟩ | ⟨a,hms,rfl⟩)
   ·have hz:=Mz.scan (by omega) hms
    simp -implicitDefEqProofs [wrOb,splice,evP,fillA,farP]
    refine ⟨keepP (by simp) (by simp) (by simp) (by simp),?_⟩
    have hprog:=lprog_ok (G:=GmL) (l:={ L with text:=limT L }) (E:=LpE t L) hz (fun w p h=>⟨hsm,ms,hms,h⟩)
    refine XC.lend1 (G:=Gp4 (LpE t L)) [.ptr 4 0] (by simp) 4 (prs { L with text:=limT L } ms 0) (by simp) (by simp [coverQ]) (by simp [prs]) (prs_deep _ _ _) (Gc:=Gl GmL { L with text:=limT L } (LpE t L)) (fun _ h=>h) (by simpa [toO] using hprog) ⟨0,by simp⟩ (by simp [lentO]) ?_ ?_ (a:=.mk)
    ·rintro x os ⟨w,p,ms',n',rfl,hE,h0⟩
     exact ⟨_,h0,prs_deep _ _ _,w,p,[],[],rfl,hE,by simp,by simp⟩
    ·rintro x cs - ⟨fs,ms',hP,rfl,rfl⟩
     simp -implicitDefEqProofs [wrOb,splice,evP,fillA,farP,sLdd]
     unfold endR
     refine lparse1_ret (fun Y=>⟨rfl,?_⟩)
     simp -implicitDefEqProofs
     obtain ⟨k,hk⟩:=P_suf hP _ _ rfl
     have hk':k++ms'=ms:=hk
     refine .inr ⟨hsm,.inr ⟨ms,hms,.inl ⟨fs,k.length,?_,rfl⟩⟩⟩
     rwa [← hk',List.drop_left,hk']
   ·simp -implicitDefEqProofs [wrOb,splice,evP,fillA,farP,sLdd,endR_nil]
    exact .inr ⟨hsm,.inl ⟨a,hms,rfl⟩⟩
end Go.Proofs.YtgddkgbidhhheaaGreatDoor
set_option linter.unusedVariables false
namespace Go.Proofs.YtgddkgbidhhheaaGreatDoor
open Ab
def c_mcopied:ACode:=(.seq (.region [⟨none,(some 2),(.mov 2 (.k (.v (.slice none 0 0))))⟩]) (.seq (.region [⟨none,(some 3),(.bsl 3 5 1 0 [] [])⟩,⟨none,(some 4),(.mov 4 (.t 0))⟩,⟨none,(some 5),(.app 5 5 1 1 (.t 3) (.t 4))⟩,⟨none,(some 2),(.mov 2 (.t 5))⟩]) .ret))
set_option maxRecDepth 100000 in
theorem F_mcopied:Fun Tryz.prog 21 6 c_mcopied [(.tmp 2)]:=Fun.of (m:=true) (by as_aux_lemma=>kernel_rfl)
def c_mawake:ACode:=(.seq (.region [⟨none,(some 0),(.mov 0 (.k (.v (.bool false))))⟩]) (.seq (.region [⟨none,(some 6),(.bld 6 [(.v (.int .i64 0)),(.v (.int .i64 0)),(.v (.int .i64 0)),(.v (.int .i64 0))] [(0,1),(1,1),(2,1),(3,1)] [(0,(.k (.v (.int .i64 99)))),(1,(.k (.v (.int .i64 99)))),(2,(.k (.v (.int .i64 99)))),(3,(.k (.v (.int .i64 99))))])⟩,⟨none,(some 1),(.var 1 [(.v (.int .i64 0)),(.v (.int .i64 0)),(.v (.int .i64 0)),(.v (.int .i64 0))])⟩,⟨none,none,(.st 4 (.t 1) (.t 6))⟩]) (.seq (.region [⟨none,(some 8),(.bsl 8 5 1 13 [(.v (.int .u8 0)),(.v (.int .u8 0)),(.v (.int .u8 0)),(.v (.int .u8 0)),(.v (.int .u8 0)),(.v (.int .u8 0)),(.v (.int .u8 0)),(.v (.int .u8 0)),(.v (.int .u8 0)),(.v (.int .u8 0)),(.v (.int .u8 0)),(.v (.int .u8 0)),(.v (.int .u8 0))] [(0,(.k (.v (.int .u8 102)))),(1,(.k (.v (.int .u8 40)))),(2,(.k (.v (.int .u8 120)))),(3,(.k (.v (.int .u8 32)))),(4,(.k (.v (.int .u8 78)))),(5,(.k (.v (.int .u8 41)))),(6,(.k (.v (.int .u8 58)))),(7,(.k (.v (.int .u8 78)))),(8,(.k (.v (.int .u8 61)))),(9,(.k (.v (.int .u8 120)))),(10,(.k (.v (.int .u8 43)))),(11,(.k (.v (.int .u8 49)))),(12,(.k (.v (.int .u8 59))))])⟩,⟨none,(some 9),(.cvm 9 5 false (.t 8))⟩,⟨none,(some 10),(.ld 10 true 4 (.t 1))⟩,⟨none,(some 11),(.call (some 11) 20 [(.t 9),(.t 10)])⟩,⟨none,(some 7),(.mov 7 (.t 11))⟩,⟨none,(some 12),(.ext 12 0 (.t 7))⟩,⟨none,(some 13),(.ext 13 1 (.t 7))⟩,⟨none,(some 2),(.var 2 [(.v (.slice none 0 0))])⟩,⟨none,(some 3),(.var 3 [(.v (.int .i64 0)),(.v (.int .i64 0))])⟩,⟨none,none,(.st 1 (.t 2) (.t 12))⟩,⟨none,none,(.st 2 (.t 3) (.t 13))⟩]) (.seq (.region [⟨none,(some 15),(.bsl 15 5 1 9 [(.v (.int .u8 0)),(.v (.int .u8 0)),(.v (.int .u8 0)),(.v (.int .u8 0)),(.v (.int .u8 0)),(.v (.int .u8 0)),(.v (.int .u8 0)),(.v (.int .u8 0)),(.v (.int .u8 0))] [(0,(.k (.v (.int .u8 102)))),(1,(.k (.v (.int .u8 40)))),(2,(.k (.v (.int .u8 120)))),(3,(.k (.v (.int .u8 41)))),(4,(.k (.v (.int .u8 58)))),(5,(.k (.v (.int .u8 78)))),(6,(.k (.v (.int .u8 61)))),(7,(.k (.v (.int .u8 120)))),(8,(.k (.v (.int .u8 59))))])⟩,⟨none,(some 16),(.cvm 16 5 false (.t 15))⟩,⟨none,(some 17),(.ld 17 true 4 (.t 1))⟩,⟨none,(some 18),(.call (some 18) 20 [(.t 16),(.t 17)])⟩,⟨none,(some 14),(.mov 14 (.t 18))⟩,⟨none,(some 19),(.ext 19 0 (.t 14))⟩,⟨none,(some 20),(.ext 20 1 (.t 14))⟩,⟨none,(some 4),(.var 4 [(.v (.slice none 0 0))])⟩,⟨none,(some 5),(.var 5 [(.v (.int .i64 0)),(.v (.int .i64 0))])⟩,⟨none,none,(.st 1 (.t 4) (.t 19))⟩,⟨none,none,(.st 2 (.t 5) (.t 20))⟩]) (.seq (.seq (.region [⟨none,(some 21),(.ld 21 true 2 (.t 3))⟩,⟨none,(some 22),(.bld 22 [(.v (.int .i64 0)),(.v (.int .i64 0))] [(0,1),(1,1)] [])⟩,⟨none,(some 23),(.eqs 23 true [(0,(.int .i64)),(1,(.int .i64))] (.t 21) (.t 22))⟩,⟨none,(some 24),(.mov 24 (.t 23))⟩,⟨(some (24,false)),(some 25),(.fad 25 0 (.t 2))⟩,⟨(some (24,false)),(some 26),(.ld 26 false 1 (.t 25))⟩,⟨(some (24,false)),(some 27),(.len 27 false (.t 26))⟩,⟨(some (24,false)),(some 28),(.bin 28 .neq (.t 27) (.k (.v (.int .i64 1))))⟩,⟨none,(some 29),(.pick 29 (.t 24) (.k (.v (.bool true))) (.t 28))⟩,⟨none,(some 30),(.mov 30 (.t 29))⟩,⟨(some (30,false)),(some 31),(.fad 31 0 (.t 2))⟩,⟨(some (30,false)),(some 32),(.ld 32 false 1 (.t 31))⟩,⟨(some (30,false)),(some 33),(.ixa 33 11 (.t 32) (.k (.v (.int .i64 0))))⟩,⟨(some (30,false)),(some 34),(.fad 34 1 (.t 33))⟩,⟨(some (30,false)),(some 35),(.ld 35 false 1 (.t 34))⟩,⟨(some (30,false)),(some 36),(.len 36 false (.t 35))⟩,⟨(some (30,false)),(some 37),(.bin 37 .neq (.t 36) (.k (.v (.int .i64 1))))⟩,⟨none,(some 38),(.pick 38 (.t 30) (.k (.v (.bool true))) (.t 37))⟩,⟨none,(some 39),(.mov 39 (.t 38))⟩,⟨(some (39,false)),(some 40),(.fad 40 0 (.t 2))⟩,⟨(some (39,false)),(some 41),(.ld 41 false 1 (.t 40))⟩,⟨(some (39,false)),(some 42),(.ixa 42 11 (.t 41) (.k (.v (.int .i64 0))))⟩,⟨(some (39,false)),(some 43),(.fad 43 3 (.t 42))⟩,⟨(some (39,false)),(some 44),(.fad 44 0 (.t 43))⟩,⟨(some (39,false)),(some 45),(.ld 45 false 1 (.t 44))⟩,⟨(some (39,false)),(some 46),(.bin 46 .neq (.t 45) (.k (.v (.int .i64 8))))⟩,⟨none,(some 47),(.pick 47 (.t 39) (.k (.v (.bool true))) (.t 46))⟩,⟨none,(some 48),(.mov 48 (.t 47))⟩,⟨(some (48,false)),(some 49),(.fad 49 0 (.t 2))⟩,⟨(some (48,false)),(some 50),(.ld 50 false 1 (.t 49))⟩,⟨(some (48,false)),(some 51),(.ixa 51 11 (.t 50) (.k (.v (.int .i64 0))))⟩,⟨(some (48,false)),(some 52),(.fad 52 3 (.t 51))⟩,⟨(some (48,false)),(some 53),(.fad 53 6 (.t 52))⟩,⟨(some (48,false)),(some 54),(.ld 54 false 1 (.t 53))⟩,⟨(some (48,false)),(some 55),(.bin 55 .neq (.t 54) (.k (.v (.int .i64 10))))⟩,⟨none,(some 56),(.pick 56 (.t 48) (.k (.v (.bool true))) (.t 55))⟩,⟨none,(some 57),(.mov 57 (.t 56))⟩,⟨(some (57,false)),(some 58),(.fad 58 0 (.t 2))⟩,⟨(some (57,false)),(some 59),(.ld 59 false 1 (.t 58))⟩,⟨(some (57,false)),(some 60),(.ixa 60 11 (.t 59) (.k (.v (.int .i64 0))))⟩,⟨(some (57,false)),(some 61),(.fad 61 3 (.t 60))⟩,⟨(some (57,false)),(some 62),(.fad 62 5 (.t 61))⟩,⟨(some (57,false)),(some 63),(.ld 63 false 1 (.t 62))⟩,⟨(some (57,false)),(some 64),(.len 64 false (.t 63))⟩,⟨(some (57,false)),(some 65),(.bin 65 .neq (.t 64) (.k (.v (.int .i64 2))))⟩,⟨none,(some 66),(.pick 66 (.t 57) (.k (.v (.bool true))) (.t 65))⟩]) (.cond (.t 66) (.seq (.region [⟨none,(some 0),(.mov 0 (.k (.v (.bool false))))⟩]) .ret) .skip)) (.seq (.region [⟨none,(some 67),(.fad 67 0 (.t 2))⟩,⟨none,(some 68),(.ld 68 false 1 (.t 67))⟩,⟨none,(some 69),(.ixa 69 11 (.t 68) (.k (.v (.int .i64 0))))⟩,⟨none,(some 70),(.fad 70 3 (.t 69))⟩,⟨none,(some 71),(.fad 71 5 (.t 70))⟩,⟨none,(some 72),(.ld 72 false 1 (.t 71))⟩,⟨none,(some 73),(.ixa 73 7 (.t 72) (.k (.v (.int .i64 1))))⟩,⟨none,(some 74),(.fad 74 4 (.t 73))⟩,⟨none,(some 75),(.ld 75 false 1 (.t 74))⟩,⟨none,(some 76),(.eqc 76 false (.t 75) (.k (.v (.complex .f64 4607182418800017408 0))))⟩,⟨none,(some 77),(.mov 77 (.t 76))⟩,⟨(some (77,true)),(some 78),(.ld 78 true 2 (.t 5))⟩,⟨(some (77,true)),(some 79),(.bld 79 [(.v (.int .i64 0)),(.v (.int .i64 0))] [(0,1),(1,1)] [(0,(.k (.v (.int .i64 21)))),(1,(.k (.v (.int .i64 3))))])⟩,⟨(some (77,true)),(some 80),(.eqs 80 false [(0,(.int .i64)),(1,(.int .i64))] (.t 78) (.t 79))⟩,⟨none,(some 81),(.pick 81 (.t 77) (.t 80) (.k (.v (.bool false))))⟩,⟨none,(some 0),(.mov 0 (.t 81))⟩]) .ret))))))
set_option maxRecDepth 100000 in
theorem F_mawake:Fun Tryz.prog 17 82 c_mawake [(.tmp 0)]:=Fun.of (m:=true) (by as_aux_lemma=>kernel_rfl)
def c_mone:ACode:=(.seq (.region [⟨none,(some 3),(.box 3 (.t 1))⟩,⟨none,(some 4),(.mov 4 (.k (.v (.bool false))))⟩]) (.seq (.drawc [⟨none,(some 10),(.mov 10 (.t 0))⟩,⟨none,(some 11),(.call (some 11) 21 [(.t 10)])⟩,⟨none,(some 12),(.ld 12 true 4 (.t 3))⟩,⟨none,(some 5),(.var 5 [(.v (.slice none 0 0))])⟩,⟨none,(some 6),(.var 6 [(.v (.int .i64 0)),(.v (.int .i64 0))])⟩] [] (some 13) 20 [(.t 11),(.t 12)] [⟨none,(some 9),(.mov 9 (.t 13))⟩,⟨none,(some 14),(.ext 14 0 (.t 9))⟩,⟨none,(some 15),(.ext 15 1 (.t 9))⟩,⟨none,none,(.st 1 (.t 5) (.t 14))⟩,⟨none,none,(.st 2 (.t 6) (.t 15))⟩]) (.seq (.region [⟨none,(some 17),(.mov 17 (.t 0))⟩,⟨none,(some 18),(.ld 18 true 4 (.t 3))⟩,⟨none,(some 19),(.call (some 19) 25 [(.t 17),(.t 18)])⟩,⟨none,(some 16),(.mov 16 (.t 19))⟩,⟨none,(some 20),(.ext 20 0 (.t 16))⟩,⟨none,(some 21),(.ext 21 1 (.t 16))⟩,⟨none,(some 7),(.var 7 [(.v (.slice none 0 0))])⟩,⟨none,(some 8),(.var 8 [(.v (.int .i64 0)),(.v (.int .i64 0))])⟩,⟨none,none,(.st 1 (.t 7) (.t 20))⟩,⟨none,none,(.st 2 (.t 8) (.t 21))⟩]) (.seq (.region [⟨none,(some 22),(.ld 22 true 2 (.t 6))⟩,⟨none,(some 23),(.ld 23 true 2 (.t 8))⟩,⟨none,(some 24),(.eqs 24 false [(0,(.int .i64)),(1,(.int .i64))] (.t 22) (.t 23))⟩,⟨none,(some 25),(.mov 25 (.t 24))⟩,⟨(some (25,true)),(some 26),(.ld 26 true 1 (.t 5))⟩,⟨(some (25,true)),(some 27),(.ld 27 true 1 (.t 7))⟩,⟨(some (25,true)),(some 28),(.call (some 28) 23 [(.t 26),(.t 27),(.k (.v (.bool true)))])⟩,⟨none,(some 29),(.pick 29 (.t 25) (.t 28) (.k (.v (.bool false))))⟩,⟨none,(some 4),(.mov 4 (.t 29))⟩]) .ret))))
set_option maxRecDepth 100000 in
theorem F_mone:Fun Tryz.prog 18 30 c_mone [(.tmp 4)]:=Fun.of (m:=true) (by as_aux_lemma=>kernel_rfl)
def c_mparses:ACode:=(.seq (.region [⟨none,(some 3),(.box 3 (.t 1))⟩,⟨none,(some 4),(.mov 4 (.k (.v (.bool false))))⟩]) (.seq (.region [⟨none,(some 5),(.call (some 5) 17 [])⟩,⟨none,(some 6),(.mov 6 (.t 5))⟩,⟨(some (6,true)),(some 7),(.mov 7 (.t 0))⟩,⟨(some (6,true)),(some 8),(.ld 8 true 4 (.t 3))⟩,⟨(some (6,true)),(some 9),(.call (some 9) 18 [(.t 7),(.t 8)])⟩,⟨none,(some 10),(.pick 10 (.t 6) (.t 9) (.k (.v (.bool false))))⟩,⟨none,(some 11),(.mov 11 (.t 10))⟩,⟨(some (11,true)),(some 12),(.mov 12 (.t 0))⟩,⟨(some (11,true)),(some 13),(.call (some 13) 19 [])⟩,⟨(some (11,true)),(some 14),(.call (some 14) 18 [(.t 12),(.t 13)])⟩,⟨none,(some 15),(.pick 15 (.t 11) (.t 14) (.k (.v (.bool false))))⟩,⟨none,(some 4),(.mov 4 (.t 15))⟩]) .ret))
set_option maxRecDepth 100000 in
theorem F_mparses:Fun Tryz.prog 4 16 c_mparses [(.tmp 4)]:=Fun.of (m:=true) (by as_aux_lemma=>kernel_rfl)
end Go.Proofs.YtgddkgbidhhheaaGreatDoor
set_option linter.unusedVariables false
set_option linter.unusedSimpArgs false
set_option maxRecDepth 100000
namespace Go.Proofs.YtgddkgbidhhheaaGreatDoor
open Go.RowKit Flo Ab Mk Pg
mutual
def sameX (pl:Bool):Ex→Ex→Bool
 | .mk o n t ty num us p,.mk o' n' t' ty' num' vs p'=>decide (o=o') && (n == n') && (t == t') && decide (ty=ty') && cEq (W num.1) (W num.2) (W num'.1) (W num'.2) && decide (us.length=vs.length) && (!pl || decide (p=p')) && sameXs pl us vs
def sameXs (pl:Bool):List Ex→List Ex→Bool
 | e :: r,e' :: r'=>sameX pl e e' && sameXs pl r r'
 | _,_=>true
end
mutual
def cntX:Ex→Nat
 | .mk _ _ _ _ _ us _=>1 + cntXs us
def cntXs:List Ex→Nat
 | []=>0
 | e :: r=>cntX e + cntXs r
end
theorem cntX_pos (e:Ex):1≤cntX e:=by obtain ⟨o,n,t,ty,num,us,p⟩:=e; rw [cntX]; omega
theorem cntXs_len:∀ us:List Ex,us.length≤cntXs us
 | []=>Nat.zero_le _
 | e :: r=>by have:=cntXs_len r; have:=cntX_pos e; rw [cntXs,List.length_cons]; omega
theorem cntXs_mem:∀ {us:List Ex} {e:Ex},e ∈ us→cntX e≤cntXs us
 | u :: r,e,h=>by
  rw [cntXs]
  rcases List.mem_cons.1 h with rfl | h
  ·omega
  ·have:=cntXs_mem h; omega
theorem cells_deep (e:Ex):e.cells.all deep1=true:=by obtain ⟨o,n,t,ty,num,us,p⟩:=e; rfl
theorem exsA_at:∀ {us:List Ex} {k:Nat} {e:Ex},us[k]? = some e→((exsA us).drop (k * 7)).take 7=e.cells
 | [],k,v,h=>by simp at h
 | u :: vs,0,v,h=>by cases h; rw [exsA,Nat.zero_mul,List.drop_zero,List.take_left' (cells_len _)]
 | u :: vs,k + 1,v,h=>by
  have:=exsA_at (us:=vs) (k:=k) (e:=v) (by simpa using h)
  rw [exsA,show (k + 1) * 7=u.cells.length + k * 7 by rw [cells_len]; omega,← List.drop_drop,List.drop_left]
  exact this
theorem sameXs_drop (pl:Bool) {us vs:List Ex} {k:Nat} {e e':Ex} (h:us[k]? = some e) (h':vs[k]? = some e'):sameXs pl (us.drop k) (vs.drop k)=(sameX pl e e' && sameXs pl (us.drop (k + 1)) (vs.drop (k + 1))):=by
 obtain ⟨h1,rfl⟩:=List.getElem?_eq_some_iff.1 h
 obtain ⟨h2,rfl⟩:=List.getElem?_eq_some_iff.1 h'
 rw [List.drop_eq_getElem_cons h1,List.drop_eq_getElem_cons h2,sameXs]
section
variable {G:World→Prop}
def SxI (pl:Bool) (us vs:List Ex) (ca cb:List AV) (g:Nat) (F:Fr) (H:List Ob):Prop:=
 ∃ k:Nat,k + g=us.length∧F 2=some (bv pl)∧F 3=some (.ptr 0 0)∧F 4=some (.ptr 1 0)∧F 7=some (iv k)∧H[0]? = some (.var ca)∧H[1]? = some (.var cb)∧sameXs pl us vs=sameXs pl (us.drop k) (vs.drop k)
theorem psamee_ap (pl:Bool):∀ (a b:Ex),cntX a≤1000000→AP Tryz.prog G 24 [exA a,exA b,bv pl] (fun x=>x=bv (sameX pl a b))
 | .mk o n t ty num us p,.mk o' n' t' ty' num' vs p',hcnt=>by
  rw [cntX] at hcnt
  have hul:=cntXs_len us
  refine AP.go hmix F_psamee (by simp) ?_
  have hsx:sameX pl (.mk o n t ty num us p) (.mk o' n' t' ty' num' vs p')=(decide (o=o') && (n == n') && (t == t') && decide (ty=ty') && cEq (W num.1) (W num.2) (W num'.1) (W num'.2) && decide (us.length=vs.length) && (!pl || decide (p=p')) && sameXs pl us vs):=by rw [sameX]
  obtain ⟨R,hR⟩:∃ R,sameX pl (.mk o n t ty num us p) (.mk o' n' t' ty' num' vs p')=R:=⟨_,rfl⟩
  rw [hR] at hsx ⊢
  rcases Classical.em (¬ (o=o')) with h1 | h1
  ·simp -implicitDefEqProofs [c_psamee,exA,Ex.cells,h1,hsx]
  have h1:=Decidable.not_not.1 h1
  subst h1
  rcases Classical.em (¬ (n=n')) with h2 | h2
  ·have h2':(n == n')=false:=beq_eq_false_iff_ne.2 h2
   simp -implicitDefEqProofs [c_psamee,exA,Ex.cells,h2,h2',hsx]
  have h2:=Decidable.not_not.1 h2
  subst h2
  rcases Classical.em (¬ (t=t')) with h3 | h3
  ·have h2':(t == t')=false:=beq_eq_false_iff_ne.2 h3
   simp -implicitDefEqProofs [c_psamee,exA,Ex.cells,h3,h2',hsx]
  have h3:=Decidable.not_not.1 h3
  subst h3
  rcases Classical.em (¬ (ty=ty')) with h4 | h4
  ·simp -implicitDefEqProofs [c_psamee,exA,Ex.cells,h4,hsx]
  have h4:=Decidable.not_not.1 h4
  subst h4
  cases h5:cEq (W num.1) (W num.2) (W num'.1) (W num'.2)
  ·simp -implicitDefEqProofs [c_psamee,exA,Ex.cells,h5,hsx]
  rcases Classical.em (¬ (us.length=vs.length)) with h6 | h6
  ·have h6':¬ (us.length:Int)=vs.length:=by omega
   simp -implicitDefEqProofs [c_psamee,exA,Ex.cells,h5,h6,h6',hsx]
  have h6:=Decidable.not_not.1 h6
  have h6':(us.length:Int)=vs.length:=by omega
  by_cases h7:pl=true∧p≠p'
  ·obtain ⟨rfl,h7⟩:=h7
   simp -implicitDefEqProofs [c_psamee,exA,Ex.cells,h5,eq_true h6,eq_true h6',h7,hsx]
  have ih:∀ e ∈ us,∀ b,AP Tryz.prog G 24 [exA e,exA b,bv pl] (fun x=>x=bv (sameX pl e b)):=fun e he b=>psamee_ap pl e b (by have:=cntXs_mem he; omega)
  have hR2:(pl=false∨p=p')→R=sameXs pl us vs:=by
   intro hp
   have h8:(!pl || decide (p=p'))=true:=by
    rcases hp with rfl | rfl
    ·rfl
    ·simp
   rw [hsx,h5,h8,decide_eq_true h6]
   simp
  have hcase:pl=false∨(pl=true∧p=p'):=by
   cases pl
   ·exact .inl rfl
   ·refine .inr ⟨rfl,?_⟩
    rcases Classical.em (p=p') with h | h
    ·exact h
    ·exact absurd ⟨rfl,h⟩ h7
  rcases hcase with rfl | ⟨rfl,rfl⟩
  ·have hRR:=hR2 (.inl rfl)
   simp -implicitDefEqProofs [c_psamee,exA,Ex.cells,h5,eq_true h6,eq_true h6']
   refine LP.go (SxI false us vs [iv o,sv n,sv t,iv ty,cv (W num.1) (W num.2),.sl us.length (exsA us),iv p] [iv o,sv n,sv t,iv ty,cv (W num'.1) (W num'.2),.sl vs.length (exsA vs),iv p']) us.length ⟨0,by omega,by simp,by simp,by simp,by simp,by simp,by simp,rfl⟩ ?_
   unfold c_psamee_L0
   rintro g F H ⟨k,hk,f2,f3,f4,f7,hH0,hH1,he⟩
   by_cases hkl:(k:Int) < us.length
   ·have hkl':k < us.length:=by omega
    obtain ⟨e,hu⟩:∃ e,us[k]? = some e:=⟨_,List.getElem?_eq_getElem hkl'⟩
    obtain ⟨e',hv⟩:∃ e,vs[k]? = some e:=⟨_,List.getElem?_eq_getElem (by omega)⟩
    have hcu:=exsA_at hu
    have hcv:=exsA_at hv
    have hw:IntKind.i64.wrap ((k:Int) + 1)=((k + 1:Nat):Int):=by rw [wrap64 _ (by omega)]; omega
    rw [sameXs_drop _ hu hv] at he
    have hih:=ih e (List.mem_of_getElem? hu) e'
    simp -implicitDefEqProofs [f2,f3,f4,f7,hH0,hH1,hkl,hcu,hcv]
    have hz1:k * 7 + 7≤(exsA us).length:=by rw [exsA_len]; omega
    have hz2:k * 7 + 7≤(exsA vs).length:=by rw [exsA_len]; omega
    have hkv:k < vs.length:=by omega
    refine ⟨hz1,hkv,hz2,?_⟩
    refine DC.go [.agg e.cells,.agg e'.cells,bv false] (bv (sameX false e e')) (by simp) (by simpa [exA] using hih) (by simp [cells_deep]) (by simp) ?_ (a:=.mk)
    cases hs:sameX false e e'
    ·have he2:sameXs false us vs=false:=by rw [he,hs]; rfl
     simp -implicitDefEqProofs [hRR,he2]
    ·rw [hs,Bool.true_and] at he
     simp -implicitDefEqProofs [f7,hw,-Int.natCast_add]
     exact ⟨g - 1,by omega,k + 1,by omega,by simp [f2],by simp [f3],by simp [f4],by simp,hH0,hH1,he⟩
   ·obtain rfl:k=us.length:=by omega
    rw [List.drop_length] at he
    have he2:sameXs false us vs=true:=by rw [he]; simp [sameXs]
    simp -implicitDefEqProofs [f2,f3,f4,f7,hH0,hH1,hkl,hRR,he2]
  ·have hRR:=hR2 (.inr rfl)
   simp -implicitDefEqProofs [c_psamee,exA,Ex.cells,h5,eq_true h6,eq_true h6']
   refine LP.go (SxI true us vs [iv o,sv n,sv t,iv ty,cv (W num.1) (W num.2),.sl us.length (exsA us),iv p] [iv o,sv n,sv t,iv ty,cv (W num'.1) (W num'.2),.sl vs.length (exsA vs),iv p]) us.length ⟨0,by omega,by simp,by simp,by simp,by simp,by simp,by simp,rfl⟩ ?_
   unfold c_psamee_L0
   rintro g F H ⟨k,hk,f2,f3,f4,f7,hH0,hH1,he⟩
   by_cases hkl:(k:Int) < us.length
   ·have hkl':k < us.length:=by omega
    obtain ⟨e,hu⟩:∃ e,us[k]? = some e:=⟨_,List.getElem?_eq_getElem hkl'⟩
    obtain ⟨e',hv⟩:∃ e,vs[k]? = some e:=⟨_,List.getElem?_eq_getElem (by omega)⟩
    have hcu:=exsA_at hu
    have hcv:=exsA_at hv
    have hw:IntKind.i64.wrap ((k:Int) + 1)=((k + 1:Nat):Int):=by rw [wrap64 _ (by omega)]; omega
    rw [sameXs_drop _ hu hv] at he
    have hih:=ih e (List.mem_of_getElem? hu) e'
    simp -implicitDefEqProofs [f2,f3,f4,f7,hH0,hH1,hkl,hcu,hcv]
    have hz1:k * 7 + 7≤(exsA us).length:=by rw [exsA_len]; omega
    have hz2:k * 7 + 7≤(exsA vs).length:=by rw [exsA_len]; omega
    have hkv:k < vs.length:=by omega
    refine ⟨hz1,hkv,hz2,?_⟩
    refine DC.go [.agg e.cells,.agg e'.cells,bv true] (bv (sameX true e e')) (by simp) (by simpa [exA] using hih) (by simp [cells_deep]) (by simp) ?_ (a:=.mk)
    cases hs:sameX true e e'
    ·have he2:sameXs true us vs=false:=by rw [he,hs]; rfl
     simp -implicitDefEqProofs [hRR,he2]
    ·rw [hs,Bool.true_and] at he
     simp -implicitDefEqProofs [f7,hw,-Int.natCast_add]
     exact ⟨g - 1,by omega,k + 1,by omega,by simp [f2],by simp [f3],by simp [f4],by simp,hH0,hH1,he⟩
   ·obtain rfl:k=us.length:=by omega
    rw [List.drop_length] at he
    have he2:sameXs true us vs=true:=by rw [he]; simp [sameXs]
    simp -implicitDefEqProofs [f2,f3,f4,f7,hH0,hH1,hkl,hRR,he2]
termination_by a=>SizeOf.sizeOf a
decreasing_by
 have:=List.sizeOf_lt_of_mem he
 simp only [Ex.mk.sizeOf_spec]
 omega
end
end Go.Proofs.YtgddkgbidhhheaaGreatDoor
