/- Texts joined: Aby. -/
import Derived.Test.YtgddkgbidhhheaaGreatDoorKwak
set_option linter.unusedVariables false
set_option linter.unusedSimpArgs false
namespace Go.Proofs.YtgddkgbidhhheaaGreatDoor
open Go.RowKit
namespace Ab
section
variable {P:Program} {G:Gs}
theorem ops_then {N:Nat} {ops:Array Oper} {w0:World} (hG:G.inv w0) {ds:List Deferred} {rest:List Oper}:∀ (l:List Oper) (al:List AOper),compOps P N .plain ops l=some al →
  ∀ (c:Cx) (a:Act) (F:Fr) (H:List Ob) (K:Fr→List Ob→Prop) (Q:Exit→Act→World→Prop),St w0 c H→RF c F a→a.tmps.size=N→a.defers=ds→awpOps P G N al K F H →
  (∀ ch a' w',PanAt G w0 ds c H ch a' w'→Q (.panic ch) a' w')→(∀ a' w',Fin w0 N ds c H K a' w'→wpList P ops Q rest a' w')→wpList P ops Q (l++rest) a c.w
 | [],al,h,c,a,F,H,K,Q,hS,hF,hN,hds,hK,hQp,hQ=>by
  cases h
  exact hQ _ _ ⟨c,F,H,rfl,.refl c H,hS,hF,hN,hds,hK⟩
 | o :: l,al,h,c,a,F,H,K,Q,hS,hF,hN,hds,hK,hQp,hQ=>by
  simp only [compOps] at h
  split at h
  ·rename_i ao asx hao has
   cases h
   obtain ⟨g,op,hg,hop,hdst,rfl⟩:=compOper_inv hao
   simp only [awpOps] at hK
   rw [List.cons_append]
   unfold wpList
   rcases guard_ok hF hg hK with ⟨hw,hK⟩ | ⟨hw,hK⟩
   ·rw [if_pos hw]
    left
    refine Oper.wp_mono (fun a' w' hfin=>?_) (compOp_ok hop w0 ds c a F H _ Q hG hS hF hN hds hQp hK)
    obtain ⟨c',F',H',rfl,q2,q3,q4,q5,q6,q7⟩:=hfin.ex
    exact ops_then hG l asx has c' a' F' H' K Q q3 q4 q5 q6 q7 (fun ch a2 w2 h2=>hQp _ _ _ (h2.trans q2)) (fun a2 w2 h2=>hQ _ _ (h2.trans q2))
   ·rw [if_neg (by rw [hw]; simp)]
    exact ops_then hG l asx has c _ (skipF F o.dst) H K Q hS (skip_ok hF _ (by rw [hN]; exact hdst)) (by rw [size_put,hN]) (by rw [defers_put,hds]) hK hQp hQ
  ·cases h
def isDfr (o:Oper):Option Operand:=
 match o.op,o.guard,o.dst with
 | .defer ci,none,none=>match ci.callee with
  | .value fo=>if ci.args.isEmpty then some fo else none
  | _=>none
 | _,_,_=>none
def compDfr (P:Program) (N:Nat) (ops:Array Oper):Option (List AOper × Opd):=
 match ops.toList.getLast? with
 | some o=>match isDfr o with
  | some fo=>match compOps P N .plain ops ops.toList.dropLast,cOpd fo with
   | some al,some p=>some (al,p)
   | _,_=>none
  | none=>none
 | none=>none
theorem isDfr_is {o:Oper} {fo:Operand} (h:isDfr o=some fo):∃ ci,o.op=.defer ci∧o.guard=none∧o.dst=none∧ci.callee=.value fo∧ci.args = #[]:=by
 unfold isDfr at h
 split at h
 ·rename_i ci h1 h2 h3
  split at h
  ·rename_i fo' h4
   split at h
   ·rename_i h5
    cases h
    exact ⟨ci,h1,h2,h3,h4,by simpa using h5⟩
   ·cases h
  ·cases h
 ·cases h
def dfrK (okD:DL→Prop) (Q:XQ) (ls:DL) (x:Opd) (F:Fr) (H:List Ob):Prop:=
 match opd F x with
 | some (.clo f xs)=>okD ((f,xs) :: ls)∧Q ((f,xs) :: ls) .normal F H
 | _=>False
theorem XW.dfr {N:Nat} {okD:DL→Prop} {Q:XQ} {ls:DL} {F:Fr} {H:List Ob} {id:Nat} {ops:Array Oper} {al:List AOper} {x:Opd} (hc:compDfr P N ops=some (al,x)) (h:awpOps P G N al (dfrK okD Q ls x) F H):XW P G okD N (.region id ops false) Q ls F H:=by
 intro w0 c a hG hS hF hN hd ho
 unfold compDfr at hc
 split at hc
 ·rename_i o hlast
  split at hc
  ·rename_i fo hfo
   split at hc
   ·rename_i al' p hal hp
    cases hc
    obtain ⟨ci,c1,c2,c3,c4,c5⟩:=isDfr_is hfo
    have hl:ops.toList=ops.toList.dropLast++[o]:=by
     have hne:ops.toList≠[]:=fun e=>by rw [e] at hlast; cases hlast
     rw [List.getLast?_eq_some_getLast hne] at hlast
     cases hlast
     exact (List.dropLast_concat_getLast hne).symm
    refine wp_region_list ?_
    rw [hl]
    refine ops_then hG ops.toList.dropLast al hal c a F H (dfrK okD Q ls x) _ hS hF hN rfl h (fun ch a' w' ⟨c',H',u,y,p1,p2,p3,p4,p5,p6,p7,p8⟩=>.inr ⟨ch,c',H',u,y,ls,rfl,p1,p2,p3,p4,p5,p8,by rw [p7]; exact hd.le p2.le,ho,p6⟩) (fun a' w' hfin=>?_)
    obtain ⟨c',F',H',rfl,q2,q3,q4,q5,q6,q7⟩:=hfin.ex
    unfold dfrK at q7
    split at q7
    ·rename_i f xs hx
     obtain ⟨us,e1,hul,hur⟩:=(cOpd_ok q4 hp hx).inv_clo
     unfold wpList
     rw [if_pos (by simp [Region.wanted,c2])]
     left
     unfold Oper.wp
     have hrun:(execOp a'.eval o).run P c'.w=.ok (.defer { target:=.fn (.func f) us.toArray,args:=#[] }) c'.w:=by
      simp [execOp,c1,resolve,c4,c5,e1,Deferred.ofValue]
     rw [hrun,Oper.upon_defer,c3]
     unfold wpList
     refine .inl ⟨c',F',H',(f,xs) :: ls,rfl,q2,q3,q4,q5,?_,q7.1,q7.2⟩
     refine ⟨⟨us,rfl,hul,hur⟩,?_⟩
     show DfOk c' ls a'.defers
     rw [q6]; exact hd.le q2.le
    ·exact q7.elim
   ·cases hc
  ·cases hc
 ·cases hc
inductive STree where
 | fin
 | node (l:List (AOper × STree))
mutual
def treeW (P:Program) (G:Gs) (N:Nat):STree→(Fr→List Ob→Prop)→Fr→List Ob→Prop
 | .fin,K,F,H=>K F H
 | .node l,K,F,H=>treesW P G N l K F H
def treesW (P:Program) (G:Gs) (N:Nat):List (AOper × STree)→(Fr→List Ob→Prop)→Fr→List Ob→Prop
 | [],K,F,H=>True
 | (o,t) :: r,K,F,H=>guardP o.guard F (sem P G N o.op F H (treeW P G N t K)) (treeW P G N t K (skipF F o.dst) H)∧treesW P G N r K F H
end
def mkTree (P : Program) (N : Nat) (ops : Array Oper) : Nat → Array Bool → Option STree
  | 0, listed => match Region.ready .any ops listed with
    | [] => some .fin
    | _ => none
  | k + 1, listed => match Region.ready .any ops listed with
    | [] => some .fin
    | l => (l.mapM fun i => match ops[i]?, mkTree P N ops k (listed.setIfInBounds i true) with
      | some o, some t => (compOper P N .plain ops o).map fun ao => (ao, t)
      | _, _ => none).map .node
def callsIn (ops:Array Oper):Nat:=(ops.toList.filter fun o=>match o.op with | .call ci=>(match ci.callee with | .value (.func _)=>true | _=>false) | _=>false).length
def twoIn:Code→Bool
 | .seq a b=>twoIn a || twoIn b
 | .cond _ a b=>twoIn a || twoIn b
 | .block _ a=>twoIn a
 | .loop a=>twoIn a
 | .scope a=>twoIn a
 | .region _ ops d=>d && decide (1 < callsIn ops)
 | _=>false
theorem mapM_some {α β:Type} {g:α→Option β}:∀ {l:List α} {r:List β},l.mapM g=some r→∀ x ∈ l,∃ y ∈ r,g x=some y
 | [],r,h,x,hx=>by simp at hx
 | a :: l,r,h,x,hx=>by
  rw [List.mapM_cons] at h
  simp only [Option.bind_eq_bind,Option.bind_eq_some_iff] at h
  obtain ⟨b,hb,bs,hbs,he⟩:=h
  cases he
  rcases List.mem_cons.1 hx with rfl | hx
  ·exact ⟨b,by simp,hb⟩
  ·obtain ⟨y,hy,hg⟩:=mapM_some hbs x hx
   exact ⟨y,by simp [hy],hg⟩
theorem treesW_mem {N:Nat} {K:Fr→List Ob→Prop} {F:Fr} {H:List Ob}:∀ {l:List (AOper × STree)},treesW P G N l K F H→∀ o t,(o,t) ∈ l→guardP o.guard F (sem P G N o.op F H (treeW P G N t K)) (treeW P G N t K (skipF F o.dst) H)
 | [],_,o,t,h=>by cases h
 | (o',t') :: r,hw,o,t,h=>by
  unfold treesW at hw
  rcases List.mem_cons.1 h with h | h
  ·cases h; exact hw.1
  ·exact treesW_mem hw.2 o t h
theorem mkTree_ok {N:Nat} {ops:Array Oper} {w0:World} (hG:G.inv w0) {ds:List Deferred} {Q:Exit→Act→World→Prop} {K:Fr→List Ob→Prop}:∀ (k:Nat) (listed:Array Bool) (t:STree),mkTree P N ops k listed=some t →
  ∀ (c:Cx) (a:Act) (F:Fr) (H:List Ob),St w0 c H→RF c F a→a.tmps.size=N→a.defers=ds→treeW P G N t K F H →
  (∀ ch a' w',PanAt G w0 ds c H ch a' w'→Q (.panic ch) a' w')→(∀ a' w',Fin w0 N ds c H K a' w'→Q .normal a' w')→wpAny P .any ops Q k listed a c.w
 | 0,listed,t,h,c,a,F,H,hS,hF,hN,hds,hK,hQp,hQ=>by
  unfold mkTree at h
  split at h
  ·rename_i hr
   cases h
   unfold treeW at hK
   exact ⟨hr,hQ _ _ ⟨c,F,H,rfl,.refl c H,hS,hF,hN,hds,hK⟩⟩
  ·cases h
 | k + 1,listed,t,h,c,a,F,H,hS,hF,hN,hds,hK,hQp,hQ=>by
  unfold mkTree at h
  split at h
  ·rename_i hr
   cases h
   unfold treeW at hK
   refine ⟨fun _=>hQ _ _ ⟨c,F,H,rfl,.refl c H,hS,hF,hN,hds,hK⟩,fun i hi=>?_⟩
   rw [hr] at hi; cases hi
  ·rename_i hne
   rw [Option.map_eq_some_iff] at h
   obtain ⟨l,hl,rfl⟩:=h
   unfold treeW at hK
   refine ⟨fun hnone=>absurd hnone hne,fun i hi=>?_⟩
   obtain ⟨⟨ao,t'⟩,hm,hg⟩:=mapM_some hl i hi
   split at hg
   ·rename_i o t0 ho ht0
    rw [Option.map_eq_some_iff] at hg
    obtain ⟨ao',hao,he⟩:=hg
    cases he
    have hw:=treesW_mem hK ao t' hm
    obtain ⟨g,op,hg,hop,hdst,rfl⟩:=compOper_inv hao
    unfold wpOp
    rw [ho]
    simp only
    have next:∀ {c':Cx} {F':Fr} {H':List Ob} {a':Act},Step c H c' H'→St w0 c' H'→RF c' F' a'→a'.tmps.size=N→a'.defers=ds→treeW P G N t' K F' H'→wpAny P .any ops Q k (listed.setIfInBounds i true) a' c'.w:=by
     intro c' F' H' a' q2 q3 q4 q5 q6 q7
     exact mkTree_ok hG k _ t' ht0 c' a' F' H' q3 q4 q5 q6 q7 (fun ch a2 w2 h2=>hQp _ _ _ (h2.trans q2)) (fun a2 w2 h2=>hQ _ _ (h2.trans q2))
    rcases guard_ok hF hg hw with ⟨hwn,hK⟩ | ⟨hwn,hK⟩
    ·rw [if_pos hwn]
     left
     refine Oper.wp_mono (fun a' w' hfin=>?_) (compOp_ok hop w0 ds c a F H _ Q hG hS hF hN hds hQp hK)
     obtain ⟨c',F',H',rfl,q2,q3,q4,q5,q6,q7⟩:=hfin.ex
     exact next q2 q3 q4 q5 q6 q7
    ·rw [if_neg (by rw [hwn]; simp)]
     exact next (.refl c H) hS (skip_ok hF _ (by rw [hN]; exact hdst)) (by rw [size_put,hN]) (by rw [defers_put,hds]) hK
   ·cases hg
theorem AW.tree (hmix:P.follows .mixedOrders=true) {N:Nat} {id:Nat} {ops:Array Oper} {t:STree} (h:mkTree P N ops ops.size (Array.replicate ops.size false)=some t) {Q:Exit→Fr→List Ob→Prop} {F:Fr} {H:List Ob} (hw:treeW P G N t (Q .normal) F H):AW P G N (.region id ops true) Q F H:=by
 intro w0 ds c a hG hS hF hN hds
 obtain ⟨s1,t1⟩:=below_st hS (w1:={ c.w with drawn:=c.w.drawn + 1 }) ⟨rfl,rfl,rfl,Nat.le_refl _,fun _ _=>rfl⟩
 refine wp_region_any hmix ?_
 exact mkTree_ok (K:=Q .normal) hG ops.size _ t h (c.at { c.w with drawn:=c.w.drawn + 1 }) a F H s1 (hF.le t1.le) hN hds hw (fun ch a' w' hp=>.inl ⟨ch,rfl,hp.trans t1⟩) (fun a' w' hf=>.inr (hf.trans t1))
inductive XCode where
 | base (a:ACode)
 | seq (a b:XCode)
 | cond (p:Opd) (a b:XCode)
 | block (id:Nat) (a:XCode)
 | sco (pre:ACode) (l:Nat) (body:ACode)
 | dfr (ops:List AOper) (x:Opd)
 | tree (t:STree)
def xwp (P:Program) (G:Gs) (okD:DL→Prop) (N:Nat):XCode→XQ→DL→Fr→List Ob→Prop
 | .base a,Q,ls,F,H=>awp P G N a (Q ls) F H
 | .seq a b,Q,ls,F,H=>xwp P G okD N a (thenX (xwp P G okD N b Q) Q) ls F H
 | .cond p a b,Q,ls,F,H=>match opd F p with
  | some (.v (.bool t))=>bif t then xwp P G okD N a Q ls F H else xwp P G okD N b Q ls F H
  | _=>False
 | .block id a,Q,ls,F,H=>xwp P G okD N a (inBlockX id Q) ls F H
 | .sco pre l body,Q,ls,F,H=>awp P G N pre (thenA (LabI P G N l body (Q ls)) (noGo (Q ls))) F H
 | .dfr ops x,Q,ls,F,H=>awpOps P G N ops (dfrK okD Q ls x) F H
 | .tree t,Q,ls,F,H=>treeW P G N t (Q ls .normal) F H
def orX (o:Option ACode) (x:Option XCode):Option XCode:=match o with
 | some a=>some (.base a)
 | none=>x
def compX (P : Program) (m : Bool) (N : Nat) : Code → Option XCode
  | .seq a b => orX (bif twoIn (.seq a b) then none else compCode P m N (.seq a b)) (match compX P m N a, compX P m N b with
    | some x, some y => some (.seq x y)
    | _, _ => none)
  | .cond q a b => orX (bif twoIn (.cond q a b) then none else compCode P m N (.cond q a b)) (match cOpd q, compX P m N a, compX P m N b with
    | some p, some x, some y => some (.cond p x y)
    | _, _, _ => none)
  | .block id a => orX (bif twoIn (.block id a) then none else compCode P m N (.block id a)) (match compX P m N a with
    | some x => some (.block id x)
    | none => none)
  | .scope c => match compSco P m N c with
    | some (p, l, b) => some (.sco p l b)
    | none => none
  | .region id ops d => orX (bif twoIn (.region id ops d) then none else compCode P m N (.region id ops d)) (bif d then (match mkTree P N ops ops.size (Array.replicate ops.size false) with
    | some t => some (.tree t)
    | none => none) else match compDfr P N ops with
    | some (al, x) => some (.dfr al x)
    | none => none)
  | c => orX (compCode P m N c) none
theorem orX_some {o:Option ACode} {x:Option XCode} {y:XCode} (h:orX o x=some y):(∃ a,o=some a∧y=.base a)∨x=some y:=by
 cases o with
 | none=>exact .inr h
 | some a=>cases h; exact .inl ⟨a,rfl,rfl⟩
theorem two_some {q:Bool} {o:Option ACode} {a:ACode} (h:(bif q then none else o)=some a):o=some a:=by
 cases q with
 | true=>cases h
 | false=>exact h
theorem compX_ok (hmix:P.follows .mixedOrders=true) {m:Bool} {N:Nat} {okD:DL→Prop}:∀ (code:Code) (xc:XCode),compX P m N code=some xc→∀ (Q:XQ) (ls:DL) (F:Fr) (H:List Ob),xwp P G okD N xc Q ls F H→XW P G okD N code Q ls F H
 | .seq a b,xc,h,Q,ls,F,H,hw=>by
  unfold compX at h
  rcases orX_some h with ⟨ac,h1,rfl⟩ | h
  ·exact XW.base (compCode_ok hmix _ ac (two_some h1) _ F H hw)
  ·split at h
   ·rename_i x y hx hy
    cases h
    refine XW.seq ?_
    have:=compX_ok hmix a x hx _ ls F H hw
    intro w0 c ac hG hS hF hN hd ho
    refine wp_mono (this w0 c ac hG hS hF hN hd ho) (fun e a' w' hfin=>?_)
    rcases hfin with ⟨c',F',H',ls',q1,q2,q3,q4,q5,q6,q7,q8⟩ | hp
    ·refine .inl ⟨c',F',H',ls',q1,q2,q3,q4,q5,q6,q7,?_⟩
     cases e with
     | normal=>exact compX_ok hmix b y hy Q ls' F' H' q8
     | exit id=>exact q8
     | goto l=>exact q8
     | ret=>exact q8
     | panic ch=>exact q8
     | outgrown=>exact q8
    ·exact .inr hp
   ·cases h
 | .cond q a b,xc,h,Q,ls,F,H,hw=>by
  unfold compX at h
  rcases orX_some h with ⟨ac,h1,rfl⟩ | h
  ·exact XW.base (compCode_ok hmix _ ac (two_some h1) _ F H hw)
  ·split at h
   ·rename_i p x y hp hx hy
    cases h
    simp only [xwp] at hw
    split at hw
    ·rename_i t ht
     refine XW.cond hp ht ?_
     cases t
     ·exact compX_ok hmix b y hy Q ls F H hw
     ·exact compX_ok hmix a x hx Q ls F H hw
    ·exact hw.elim
   ·cases h
 | .block id a,xc,h,Q,ls,F,H,hw=>by
  unfold compX at h
  rcases orX_some h with ⟨ac,h1,rfl⟩ | h
  ·exact XW.base (compCode_ok hmix _ ac (two_some h1) _ F H hw)
  ·split at h
   ·rename_i x hx
    cases h
    exact XW.block (compX_ok hmix a x hx _ ls F H hw)
   ·cases h
 | .scope c,xc,h,Q,ls,F,H,hw=>by
  unfold compX at h
  split at h
  ·rename_i p l b hb
   cases h
   exact XW.sco hmix hb hw
  ·cases h
 | .region id ops d,xc,h,Q,ls,F,H,hw=>by
  unfold compX at h
  rcases orX_some h with ⟨ac,h1,rfl⟩ | h
  ·exact XW.base (compCode_ok hmix _ ac (two_some h1) _ F H hw)
  ·cases d with
   | true=>
    simp only [cond_true] at h
    split at h
    ·rename_i t0 ht
     cases h
     exact XW.base (AW.tree hmix ht hw)
    ·cases h
   | false=>
    simp only [cond_false] at h
    split at h
    ·rename_i al x hx
     cases h
     exact XW.dfr hx hw
    ·cases h
 | .skip,xc,h,Q,ls,F,H,hw=>by
  unfold compX at h
  rcases orX_some h with ⟨ac,h1,rfl⟩ | h
  ·exact XW.base (compCode_ok hmix _ ac h1 _ F H hw)
  ·cases h
 | .loop a,xc,h,Q,ls,F,H,hw=>by
  unfold compX at h
  rcases orX_some h with ⟨ac,h1,rfl⟩ | h
  ·exact XW.base (compCode_ok hmix _ ac h1 _ F H hw)
  ·cases h
 | .exit id,xc,h,Q,ls,F,H,hw=>by
  unfold compX at h
  rcases orX_some h with ⟨ac,h1,rfl⟩ | h
  ·exact XW.base (compCode_ok hmix _ ac h1 _ F H hw)
  ·cases h
 | .label l,xc,h,Q,ls,F,H,hw=>by
  unfold compX at h
  rcases orX_some h with ⟨ac,h1,rfl⟩ | h
  ·exact XW.base (compCode_ok hmix _ ac h1 _ F H hw)
  ·cases h
 | .goto l,xc,h,Q,ls,F,H,hw=>by
  unfold compX at h
  rcases orX_some h with ⟨ac,h1,rfl⟩ | h
  ·exact XW.base (compCode_ok hmix _ ac h1 _ F H hw)
  ·cases h
 | .ret,xc,h,Q,ls,F,H,hw=>by
  unfold compX at h
  rcases orX_some h with ⟨ac,h1,rfl⟩ | h
  ·exact XW.base (compCode_ok hmix _ ac h1 _ F H hw)
  ·cases h
 | .rangeFunc _ _ _ _,xc,h,Q,ls,F,H,hw=>by
  unfold compX at h
  rcases orX_some h with ⟨ac,h1,rfl⟩ | h
  ·exact XW.base (compCode_ok hmix _ ac h1 _ F H hw)
  ·cases h
 | .refuse _,xc,h,Q,ls,F,H,hw=>by
  unfold compX at h
  rcases orX_some h with ⟨ac,h1,rfl⟩ | h
  ·exact XW.base (compCode_ok hmix _ ac h1 _ F H hw)
  ·cases h
structure FunX (P:Program) (f:FuncId) (N:Nat) (xc:XCode) (sl:List RSlot):Prop where
 ex:∃ fn code m,P.funcs[f]? = some fn∧fn.body=some code∧fn.ntmps=N∧compX P m N code=some xc∧compRes P fn.results.toList=some sl∧(fn.name == "runtime.NumGoroutine")=false
def funX (P:Program) (f:FuncId) (m:Bool:=false):Option (Nat × XCode × List RSlot):=
 match P.funcs[f]? with
 | some fn=>if (fn.name == "runtime.NumGoroutine")=true then none else match fn.body with
  | some code=>match compX P m fn.ntmps code,compRes P fn.results.toList with
   | some ac,some sl=>some (fn.ntmps,ac,sl)
   | _,_=>none
  | none=>none
 | none=>none
theorem FunX.of {f:FuncId} {N:Nat} {xc:XCode} {sl:List RSlot} {m:Bool} (h:funX P f m=some (N,xc,sl)):FunX P f N xc sl:=by
 unfold funX at h
 split at h
 ·rename_i fn hf
  split at h
  ·cases h
  ·rename_i hnm
   split at h
   ·rename_i code hb
    split at h
    ·rename_i ac' sl' hc hr
     cases h
     exact ⟨fn,code,m,hf,hb,rfl,hc,hr,by simpa using hnm⟩
    ·cases h
   ·cases h
 ·cases h
inductive AMode where
 | ret
 | pan (x:AV)
 | rcv
def ModeIs (c:Cx):AMode→FrameMode→Prop
 | .ret,u=>u=.returning
 | .pan x,u=>∃ v,u=.panicking [{ v:=v,recovered:=false }]∧RD c.w c.M x v
 | .rcv,u=>∃ v,u=.panicking [{ v:=v,recovered:=true }]
theorem ModeIs.le {c c':Cx} (hle:c.le c') {m:AMode} {u:FrameMode} (h:ModeIs c m u):ModeIs c' m u:=by
 cases m with
 | ret=>exact h
 | pan x=>obtain ⟨v,h1,h2⟩:=h; exact ⟨v,h1,h2.le hle⟩
 | rcv=>exact h
def settleA:AMode→AMode
 | .rcv=>.ret
 | m=>m
theorem ModeIs.settle {c:Cx} {m:AMode} {u:FrameMode} (h:ModeIs c m u):ModeIs c (settleA m) (settle u):=by
 cases m with
 | ret=>cases h; rfl
 | pan x=>obtain ⟨v,rfl,h2⟩:=h; exact ⟨v,rfl,h2⟩
 | rcv=>obtain ⟨v,rfl⟩:=h; rfl
def DAC (P:Program) (G:Gs) (g:FuncId) (xs:List AV) (m:AMode) (H:List Ob) (K:AMode→List Ob→Prop):Prop:=
 HasBody P g∧∀ (w0:World) (c:Cx) (vs:Array Value) (u:FrameMode),G.inv w0→St w0 c H→ModeIs c m u→(vs.size=xs.length∧∀ (j:Nat) (x:AV),xs[j]? = some x→∃ u,vs[j]? = some u∧RV c x u) →
  CallsD P g vs u c.w fun e u' w'=>∃ (v:Value) (c':Cx) (H':List Ob) (m':AMode),e=.returned v∧c'.w=w'∧Step c H c' H'∧St w0 c' H'∧ModeIs c' m' u'∧K m' H'
def Settle (P:Program) (G:Gs):DL→AMode→List Ob→(AMode→List Ob→Prop)→Prop
 | [],m,H,K=>K m H
 | (g,xs) :: r,m,H,K=>DAC P G g xs m H (fun m' H'=>Settle P G r (settleA m') H' K)
theorem leaves_of {fn:Func} {tmps:Array Value} {R:Ending→World→Prop} {w0:World} (hG:G.inv w0) {K:AMode→List Ob→Prop}:∀ (ls:DL) (ds:List Deferred) (m:AMode) (u:FrameMode) (c:Cx) (H:List Ob),DfOk c ls ds→ModeIs c m u→St w0 c H→Settle P G ls m H K →
  (∀ c' H' m' u',Step c H c' H'→St w0 c' H'→ModeIs c' m' u'→K m' H'→(u'=.returning→∃ v,(results fn tmps).run P c'.w=.ok v c'.w∧R (.returned v) c'.w)∧(∀ ch,u'=.panicking ch→R (.panicked ch) c'.w))→Leaves P fn tmps R ds u c.w
 | [],[],m,u,c,H,_,hm,hS,hK,hR=>by
  obtain ⟨r1,r2⟩:=hR c H m u (.refl c H) hS hm hK
  cases m with
  | ret=>cases hm; exact r1 rfl
  | pan x=>obtain ⟨v,rfl,_⟩:=hm; exact r2 _ rfl
  | rcv=>obtain ⟨v,rfl⟩:=hm; exact r2 _ rfl
 | (g,xs) :: r,d :: ds,m,u,c,H,hd,hm,hS,hK,hR=>by
  obtain ⟨⟨us,rfl,hul,hur⟩,hd⟩:=hd
  obtain ⟨⟨gn,gc,hb1,hb2,hb3⟩,hK⟩:=hK
  have hur':u≠.run:=by
   cases m with
   | ret=>cases hm; simp
   | pan x=>obtain ⟨v,rfl,_⟩:=hm; simp
   | rcv=>obtain ⟨v,rfl⟩:=hm; simp
  have hinv:(invoke (.fn (.func g) us.toArray) #[]).run P c.w=.ok (.enter g us.toArray) c.w:=by
   simp only [invoke]
   simpa using run_enter hb1 hb2 hb3 us.toArray c.w
  refine leaves_cons hur' hinv ((hK w0 c us.toArray u hG hS hm ⟨by simpa using hul,fun j x hx=>?_⟩).mono ?_)
  ·have hj:j < us.length:=by rw [hul]; exact (List.getElem?_eq_some_iff.1 hx).1
   exact ⟨us[j],by simp [hj],hur j x _ hx (List.getElem?_eq_getElem hj)⟩
  ·rintro e u' w' ⟨v,c',H',m',rfl,rfl,ht,hS',hm',hK'⟩
   exact leaves_of hG r ds (settleA m') (settle u') c' H' (hd.le ht.le) hm'.settle hS' hK' (fun c2 H2 m2 u2 h1 h2 h3 h4=>hR c2 H2 m2 u2 (ht.trans h1) h2 h3 h4)
 | [],_ :: _,_,_,_,_,h,_,_,_,_=>h.elim
 | _ :: _,[],_,_,_,_,h,_,_,_,_=>h.elim
def endR (P:Program) (G:Gs) (sl:List RSlot) (post:AV→List Ob→Prop) (ls:DL) (F:Fr) (H:List Ob):Prop:=
 Settle P G ls .ret H (fun m H'=>m=.ret∧∃ xs,rgets F H' sl=some xs∧post (rval xs) H')
def endX (P:Program) (G:Gs) (sl:List RSlot) (post:AV→List Ob→Prop):XQ
 | ls,.normal,F,H=>endR P G sl post ls F H
 | ls,.ret,F,H=>endR P G sl post ls F H
 | _,_,_,_=>False
def endP (P:Program) (G Gi:Gs) (okD:DL→Prop) (sl:List RSlot) (post:AV→List Ob→Prop):Prop:=
 ∀ (ls:DL) (x:AV) (H:List Ob),okD ls→Gi.pan x H→Settle P G ls (.pan x) H (fun m H'=>(m=.ret∧∃ xs,rgets Gi.keep H' sl=some xs∧post (rval xs) H')∨∃ y,m=.pan y∧G.pan y H')
theorem AC.ofX (hmix : P.follows .mixedOrders = true) {f : FuncId} {N : Nat} {xc : XCode} {sl : List RSlot} (hf : FunX P f N xc sl) {Gi : Gs} (hi : ∀ w, G.inv w → Gi.inv w) {okD : DL → Prop} (ho : okD []) {args : List AV} {objs : List Ob} {post : AV → List Ob → Prop} (hN : args.length ≤ N)
    (hp : endP P G Gi okD sl post) (h : xwp P Gi okD N xc (endX P G sl post) [] (argF args) objs) : AC P G f args objs post := by
  intro w0 c vs hG hS ⟨hvs, hargs⟩
  obtain ⟨fn, code, m, h1, h2, h3, h4, h5, _⟩ := hf.ex
  refine calls_of_wp_defers h1 h2 ?_
  have hsz : (vs ++ Array.replicate (fn.ntmps - vs.size) undef).size = N := by simp; omega
  have hF : RF c (argF args) { tmps := vs ++ Array.replicate (fn.ntmps - vs.size) undef, defers := [] } := fun t x ht => by
    obtain ⟨u, hu, hr⟩ := hargs t x ht
    refine ⟨u, ?_, hr⟩
    show (vs ++ Array.replicate (fn.ntmps - vs.size) undef)[t]? = _
    rw [Array.getElem?_append_left (Array.getElem?_eq_some_iff.1 hu).1]; exact hu
  have hw := compX_ok hmix code xc h4 _ _ _ _ h w0 c { tmps := vs ++ Array.replicate (fn.ntmps - vs.size) undef, defers := [] } (hi _ hG) hS hF hsz trivial ho
  refine wp_mono hw (fun e a' w' hfin => ?_)
  have retn : ∀ {c' : Cx} {F' : Fr} {H' : List Ob}, Step c objs c' H' → RF c' F' a' → ∀ (c2 : Cx) (H2 : List Ob), Step c' H' c2 H2 → St w0 c2 H2 → (∃ xs, rgets F' H2 sl = some xs ∧ post (rval xs) H2) →
      ∃ v, (results fn a'.tmps).run P c2.w = .ok v c2.w ∧ ((∃ (c' : Cx) (u : Value) (x : AV) (objs' : List Ob), c'.w = c2.w ∧ Ending.returned v = .returned u ∧ Step c objs c' objs' ∧ St w0 c' objs' ∧ RV c' x u ∧ post x objs') ∨
        ∃ (ch : List PanicEntry) (c' : Cx) (objs' : List Ob) (u : Value) (x : AV), Ending.returned v = .panicked ch ∧ c'.w = c2.w ∧ Step c objs c' objs' ∧ St w0 c' objs' ∧ ch = [{ v := u, recovered := false }] ∧ RD c'.w c'.M x u ∧ G.pan x objs') := by
    intro c' F' H' t1 r1 c2 H2 t2 s2 ⟨xs, hxs, hpo⟩
    obtain ⟨v, hv1, hv2⟩ := run_results h5 s2 (r1.le t2.le) hxs
    exact ⟨v, hv1, .inl ⟨c2, v, _, H2, rfl, rfl, t1.trans t2, s2, hv2, hpo⟩⟩
  have done : ∀ {c' : Cx} {F' : Fr} {H' : List Ob} {ls : DL}, c'.w = w' → Step c objs c' H' → St w0 c' H' → RF c' F' a' → DfOk c' ls a'.defers → endR P G sl post ls F' H' → Leaves P fn a'.tmps (fun e w' => (∃ (c' : Cx) (u : Value) (x : AV) (objs' : List Ob), c'.w = w' ∧ e = .returned u ∧ Step c objs c' objs' ∧ St w0 c' objs' ∧ RV c' x u ∧ post x objs') ∨
        ∃ (ch : List PanicEntry) (c' : Cx) (objs' : List Ob) (u : Value) (x : AV), e = .panicked ch ∧ c'.w = w' ∧ Step c objs c' objs' ∧ St w0 c' objs' ∧ ch = [{ v := u, recovered := false }] ∧ RD c'.w c'.M x u ∧ G.pan x objs') a'.defers .returning w' := by
    intro c' F' H' ls e1 q2 q3 q4 q6 q8
    subst e1
    refine leaves_of hG ls _ .ret .returning c' H' q6 rfl q3 q8 (fun c2 H2 m2 u2 t2 s2 hm2 ⟨hmr, hx⟩ => ?_)
    subst hmr
    refine ⟨fun _ => retn q2 q4 c2 H2 t2 s2 hx, fun ch he => ?_⟩
    rw [he] at hm2; cases hm2
  rcases hfin with ⟨c', F', H', ls, q1, q2, q3, q4, q5, q6, q7, q8⟩ | ⟨ch, c', H', u, x, ls, rfl, rfl, q2, q3, rfl, q5, q6, q7, q8, q9⟩
  · cases e with
    | normal => exact done q1 q2 q3 q4 q6 q8
    | ret => exact done q1 q2 q3 q4 q6 q8
    | exit id => exact q8.elim
    | goto l => exact q8.elim
    | panic ch => exact q8.elim
    | outgrown => exact q8.elim
  · refine leaves_of hG ls _ (.pan x) _ c' H' q7 ⟨u, rfl, q5⟩ q3 (hp ls x H' q8 q9) (fun c2 H2 m2 u2 t2 s2 hm2 hk => ?_)
    rcases hk with ⟨rfl, hx⟩ | ⟨y, rfl, hy⟩
    · refine ⟨fun _ => retn q2 q6 c2 H2 t2 s2 hx, fun ch he => ?_⟩
      rw [he] at hm2; cases hm2
    · obtain ⟨v, rfl, hr⟩ := hm2
      refine ⟨fun he => (by cases he), fun ch he => ?_⟩
      cases he
      exact .inr ⟨_, c2, H2, v, y, rfl, rfl, q2.trans t2, s2, rfl, hr, hy⟩
theorem DAC.of (hmix:P.follows .mixedOrders=true) {g:FuncId} {N:Nat} {ac:ACode} (hf:Fun P g N ac []) (hk:∀ t,G.keep t=none) (hpn:∀ x H,¬ G.pan x H) {xs:List AV} {m:AMode} {H:List Ob} {K:AMode→List Ob→Prop} (hN:xs.length≤N)
  (h:awp P G N ac (retQ [] (fun _ H'=>K m H')) (argF xs) H):DAC P G g xs m H K:=by
 refine ⟨hf.has,?_⟩
 intro w0 c vs u hG hS hm ⟨hvs,hargs⟩
 obtain ⟨fn,code,mm,h1,h2,h3,h4,h5,_⟩:=hf.ex
 have hsz:(vs++Array.replicate (fn.ntmps - vs.size) undef).size=N:=by simp; omega
 have hF:RF c (argF xs) { tmps:=vs++Array.replicate (fn.ntmps - vs.size) undef,defers:=[] }:=fun t x ht=>by
  obtain ⟨u,hu,hr⟩:=hargs t x ht
  refine ⟨u,?_,hr⟩
  show (vs++Array.replicate (fn.ntmps - vs.size) undef)[t]? = _
  rw [Array.getElem?_append_left (Array.getElem?_eq_some_iff.1 hu).1]; exact hu
 have hw:=compCode_ok hmix code ac h4 _ _ _ h w0 [] c { tmps:=vs++Array.replicate (fn.ntmps - vs.size) undef,defers:=[] } hG hS hF hsz rfl
 refine CallsD.mono (R:=fun e u' w'=>u'=u∧∃ (v:Value) (c':Cx) (H':List Ob),e=.returned v∧c'.w=w'∧Step c H c' H'∧St w0 c' H'∧K m H') (callsD_of_wp h1 h2 ?_) (fun e u' w' ⟨h1,v,c',H',h2,h3,h4,h5,h6⟩=>⟨v,c',H',m,h2,h3,h4,h5,by rw [h1]; exact hm.le h4.le,h6⟩)
 refine wp_mono hw (fun e a' w' hfin=>?_)
 rcases hfin with ⟨ch,rfl,c',H',u,x,p1,p2,p3,p4,p5,p6,p7⟩ | hfin
 ·exact (hpn _ _ p6).elim
 obtain ⟨c',F',H',rfl,q2,q3,q4,q5,q6,q7⟩:=hfin.ex
 have key:(∃ xs,rgets F' H' []=some xs∧K m H')→a'.defers=[]∧∃ v,(results fn a'.tmps).run P c'.w=.ok v c'.w∧∃ (v':Value) (c2:Cx) (H2:List Ob),Ending.returned v=.returned v'∧c2.w=c'.w∧Step c H c2 H2∧St w0 c2 H2∧K m H2:=fun ⟨xs,hxs,hp⟩=>by
  obtain ⟨v,hv1,hv2⟩:=run_results h5 q3 q4 hxs
  exact ⟨q6,v,hv1,v,c',H',rfl,rfl,q2,q3,hp⟩
 cases e with
 | normal=>exact key q7
 | ret=>exact key q7
 | exit id=>exact q7.elim
 | goto l=>exact q7.elim
 | panic ch=>exact q7.elim
 | outgrown=>exact q7.elim
end
end Ab
end Go.Proofs.YtgddkgbidhhheaaGreatDoor
