/- Texts joined: Abx. -/
import Derived.Test.YtgddkgbidhhheaaGreatDoorKwaj
import Derived.Test.YtgddkgbidhhheaaGreatDoorKwaf
import Derived.Recover
set_option linter.unusedVariables false
set_option linter.unusedSimpArgs false
namespace Go.Proofs.YtgddkgbidhhheaaGreatDoor
open Go.RowKit
namespace Ab
section
variable {P:Program} {G:Gs}
abbrev DL:=List (FuncId × List AV)
def DfOk (c:Cx):DL→List Deferred→Prop
 | [],[]=>True
 | (f,xs) :: r,d :: ds=>(∃ us:List Value,d = { target:=.fn (.func f) us.toArray,args:=#[] }∧us.length=xs.length∧∀ (j:Nat) (x:AV) (u:Value),xs[j]? = some x→us[j]? = some u→RV c x u)∧DfOk c r ds
 | _,_=>False
theorem DfOk.le {c c':Cx} (hle:c.le c'):∀ {ls:DL} {ds:List Deferred},DfOk c ls ds→DfOk c' ls ds
 | [],[],_=>trivial
 | (f,xs) :: r,d :: ds,⟨⟨us,h1,h2,h3⟩,h4⟩=>⟨⟨us,h1,h2,fun j x u a b=>(h3 j x u a b).le hle⟩,h4.le hle⟩
 | [],_ :: _,h=>h.elim
 | _ :: _,[],h=>h.elim
abbrev XQ:=DL→Exit→Fr→List Ob→Prop
def FinX (G:Gs) (okD:DL→Prop) (w0:World) (N:Nat) (c:Cx) (H:List Ob) (Q:XQ) (e:Exit) (a':Act) (w':World):Prop:=
 (∃ (c':Cx) (F':Fr) (H':List Ob) (ls:DL),c'.w=w'∧Step c H c' H'∧St w0 c' H'∧RF c' F' a'∧a'.tmps.size=N∧DfOk c' ls a'.defers∧okD ls∧Q ls e F' H') ∨
 ∃ (ch:List PanicEntry) (c':Cx) (H':List Ob) (u:Value) (x:AV) (ls:DL),e=.panic ch∧c'.w=w'∧Step c H c' H'∧St w0 c' H'∧ch=[{ v:=u,recovered:=false }]∧RD c'.w c'.M x u∧RF c' G.keep a'∧DfOk c' ls a'.defers∧okD ls∧G.pan x H'
theorem FinX.trans {okD:DL→Prop} {w0:World} {N:Nat} {c c1:Cx} {H H1:List Ob} {Q:XQ} {e:Exit} {a:Act} {w:World} (h:Step c H c1 H1) (h':FinX G okD w0 N c1 H1 Q e a w):FinX G okD w0 N c H Q e a w:=by
 rcases h' with ⟨c',F',H',ls,q1,q2,q3⟩ | ⟨ch,c',H',u,x,ls,q0,q1,q2,q3⟩
 ·exact .inl ⟨c',F',H',ls,q1,h.trans q2,q3⟩
 ·exact .inr ⟨ch,c',H',u,x,ls,q0,q1,h.trans q2,q3⟩
def XW (P:Program) (G:Gs) (okD:DL→Prop) (N:Nat) (code:Code) (Q:XQ) (ls:DL) (F:Fr) (H:List Ob):Prop:=
 ∀ (w0:World) (c:Cx) (a:Act),G.inv w0→St w0 c H→RF c F a→a.tmps.size=N→DfOk c ls a.defers→okD ls→code.wp P (FinX G okD w0 N c H Q) a c.w
def thenX (next:DL→Fr→List Ob→Prop) (Q:XQ):XQ
 | ls,.normal,F,H=>next ls F H
 | ls,e,F,H=>Q ls e F H
def inBlockX (id:Nat) (Q:XQ):XQ
 | ls,.exit id',F,H=>if id'=id then Q ls .normal F H else Q ls (.exit id') F H
 | ls,e,F,H=>Q ls e F H
def gotoA (l:Nat) (X:Fr→List Ob→Prop) (Q:Exit→Fr→List Ob→Prop):Exit→Fr→List Ob→Prop
 | .goto l',F,H=>l'=l∧X F H
 | e,F,H=>Q e F H
section
variable {N:Nat} {okD:DL→Prop} {Q:XQ} {ls:DL} {F:Fr} {H:List Ob}
theorem XW.base {code:Code} (h:AW P G N code (Q ls) F H):XW P G okD N code Q ls F H:=fun w0 c a hG hS hF hN hd ho=>by
 refine wp_mono (h w0 a.defers c a hG hS hF hN rfl) (fun e a' w' hfin=>?_)
 rcases hfin with ⟨ch,he,c',H',u,x,p1,p2,p3,p4,p5,p6,p7,p8⟩ | hfin
 ·exact .inr ⟨ch,c',H',u,x,ls,he,p1,p2,p3,p4,p5,p8,by rw [p7]; exact hd.le p2.le,ho,p6⟩
 ·obtain ⟨c',F',H',q1,q2,q3,q4,q5,q6,q7⟩:=hfin.ex
  exact .inl ⟨c',F',H',ls,q1,q2,q3,q4,q5,by rw [q6]; exact hd.le q2.le,ho,q7⟩
theorem XW.seq {x y:Code} (h:XW P G okD N x (thenX (fun ls F H=>XW P G okD N y Q ls F H) Q) ls F H):XW P G okD N (.seq x y) Q ls F H:=fun w0 c a hG hS hF hN hd ho=>by
 refine wp_seq (wp_mono (h w0 c a hG hS hF hN hd ho) (fun e a' w' hfin=>?_))
 rcases hfin with ⟨c',F',H',ls',rfl,q2,q3,q4,q5,q6,q7,q8⟩ | ⟨ch,c',H',u,x,ls',rfl,q⟩
 ·cases e with
  | normal=>exact wp_mono (q8 w0 c' a' hG q3 q4 q5 q6 q7) (fun e a2 w2 h2=>h2.trans q2)
  | exit id=>exact .inl ⟨c',F',H',ls',rfl,q2,q3,q4,q5,q6,q7,q8⟩
  | goto l=>exact .inl ⟨c',F',H',ls',rfl,q2,q3,q4,q5,q6,q7,q8⟩
  | ret=>exact .inl ⟨c',F',H',ls',rfl,q2,q3,q4,q5,q6,q7,q8⟩
  | panic ch=>exact .inl ⟨c',F',H',ls',rfl,q2,q3,q4,q5,q6,q7,q8⟩
  | outgrown=>exact .inl ⟨c',F',H',ls',rfl,q2,q3,q4,q5,q6,q7,q8⟩
 ·exact .inr ⟨ch,c',H',u,x,ls',rfl,q⟩
theorem XW.cond {q:Operand} {p:Opd} {x y:Code} {b:Bool} (hq:cOpd q=some p) (hb:opd F p=some (.v (.bool b))) (h:XW P G okD N (bif b then x else y) Q ls F H):XW P G okD N (.cond q x y) Q ls F H:=fun w0 c a hG hS hF hN hd ho=>by
 refine wp_cond (t:=b) (cOpd_ok hF hq hb).inv_v.1 ?_
 cases b
 ·exact h w0 c a hG hS hF hN hd ho
 ·exact h w0 c a hG hS hF hN hd ho
theorem XW.block {id:Nat} {x:Code} (h:XW P G okD N x (inBlockX id Q) ls F H):XW P G okD N (.block id x) Q ls F H:=fun w0 c a hG hS hF hN hd ho=>by
 refine wp_block (wp_mono (h w0 c a hG hS hF hN hd ho) (fun e a' w' hfin=>?_))
 rcases hfin with ⟨c',F',H',ls',rfl,q2,q3,q4,q5,q6,q7,q8⟩ | ⟨ch,c',H',u,x,ls',rfl,q⟩
 ·cases e with
  | normal=>exact .inl ⟨c',F',H',ls',rfl,q2,q3,q4,q5,q6,q7,q8⟩
  | exit id'=>
   simp only [inBlockX] at q8
   simp only [Exit.inBlock]
   split
   ·rw [if_pos ‹_›] at q8; exact .inl ⟨c',F',H',ls',rfl,q2,q3,q4,q5,q6,q7,q8⟩
   ·rw [if_neg ‹_›] at q8; exact .inl ⟨c',F',H',ls',rfl,q2,q3,q4,q5,q6,q7,q8⟩
  | goto l=>exact .inl ⟨c',F',H',ls',rfl,q2,q3,q4,q5,q6,q7,q8⟩
  | ret=>exact .inl ⟨c',F',H',ls',rfl,q2,q3,q4,q5,q6,q7,q8⟩
  | panic ch=>exact .inl ⟨c',F',H',ls',rfl,q2,q3,q4,q5,q6,q7,q8⟩
  | outgrown=>exact .inl ⟨c',F',H',ls',rfl,q2,q3,q4,q5,q6,q7,q8⟩
 ·exact .inr ⟨ch,c',H',u,x,ls',rfl,q⟩
end
def lab1:Code→Option (Nat × Code)
 | .seq (.label l) r=>some (l,r)
 | _=>none
theorem lab1_is {b r:Code} {l:Nat} (h:lab1 b=some (l,r)):b=.seq (.label l) r:=by
 unfold lab1 at h
 split at h
 ·cases h; rfl
 ·cases h
def compSco (P:Program) (m:Bool) (N:Nat):Code→Option (ACode × Nat × ACode)
 | .seq a b=>match compCode P m N a with
  | none=>none
  | some x=>match lab1 b with
   | some (l,r)=>match compCode P m N r with
    | some y=>if (findLabel a l).isNone then some (x,l,y) else none
    | none=>none
   | none=>match compSco P m N b with
    | some (p,l,y)=>if (findLabel a l).isNone then some (.seq x p,l,y) else none
    | none=>none
 | _=>none
theorem compSco_ok (hmix:P.follows .mixedOrders=true) {m:Bool} {N:Nat}:∀ (code:Code) (pre:ACode) (l:Nat) (body:ACode),compSco P m N code=some (pre,l,body) →
  ∃ r,findLabel code l=some (.seq .skip r)∧compCode P m N r=some body∧∀ (Q Qa:Exit→Fr→List Ob→Prop) (K:Fr→List Ob→Prop) (F:Fr) (H:List Ob),(∀ e F H,e≠.normal→Qa e F H→Q e F H)→(∀ F H,K F H→AW P G N (.seq (.label l) r) Q F H)→awp P G N pre (thenA K Qa) F H→AW P G N code Q F H
 | .seq a b,pre,l,body,h=>by
  unfold compSco at h
  have mono:∀ {Q Qa:Exit→Fr→List Ob→Prop} {K K':Fr→List Ob→Prop},(∀ e F H,e≠.normal→Qa e F H→Q e F H)→(∀ F H,K F H→K' F H)→∀ e F H,thenA K Qa e F H→thenA K' Q e F H:=by
   intro Q Qa K K' h1 h2 e F H h
   cases e with
   | normal=>exact h2 F H h
   | _=>exact h1 _ F H (by simp) h
  cases hx:compCode P m N a with
  | none=>rw [hx] at h; cases h
  | some x=>
   rw [hx] at h
   simp only at h
   cases hl:lab1 b with
   | some lr=>
    obtain ⟨l',r⟩:=lr
    rw [hl] at h
    simp only at h
    have hb:=lab1_is hl
    subst hb
    split at h
    ·rename_i y hy
     split at h
     ·rename_i hf
      cases h
      have hf':findLabel a l=none:=by simpa using hf
      refine ⟨r,?_,hy,fun Q Qa K F H hq hK hw=>?_⟩
      ·simp [findLabel,hf']
      ·exact AW.seq (AW.mono (compCode_ok hmix a pre hx _ F H hw) (mono hq hK))
     ·cases h
    ·cases h
   | none=>
    rw [hl] at h
    simp only at h
    split at h
    ·rename_i p l' y hp
     split at h
     ·rename_i hf
      cases h
      obtain ⟨r,h1,h2,h3⟩:=compSco_ok hmix b p l body hp
      have hf':findLabel a l=none:=by simpa using hf
      refine ⟨r,?_,h2,fun Q Qa K F H hq hK hw=>?_⟩
      ·simp [findLabel,hf',h1]
      ·refine AW.seq (AW.mono (compCode_ok hmix a x hx _ F H hw) ?_)
       intro e F H h
       cases e with
       | normal=>exact h3 Q Qa K F H hq hK h
       | _=>exact hq _ F H (by simp) h
     ·cases h
    ·cases h
 | .skip,_,_,_,h=>by cases h
 | .region _ _ _,_,_,_,h=>by cases h
 | .cond _ _ _,_,_,_,h=>by cases h
 | .block _ _,_,_,_,h=>by cases h
 | .loop _,_,_,_,h=>by cases h
 | .exit _,_,_,_,h=>by cases h
 | .label _,_,_,_,h=>by cases h
 | .goto _,_,_,_,h=>by cases h
 | .ret,_,_,_,h=>by cases h
 | .rangeFunc _ _ _ _,_,_,_,h=>by cases h
 | .scope _,_,_,_,h=>by cases h
 | .refuse _,_,_,_,h=>by cases h
def noGo (Q:Exit→Fr→List Ob→Prop):Exit→Fr→List Ob→Prop
 | .goto _,_,_=>False
 | e,F,H=>Q e F H
def LabI (P:Program) (G:Gs) (N:Nat) (l:Nat) (body:ACode) (Q:Exit→Fr→List Ob→Prop) (F:Fr) (H:List Ob):Prop:=
 ∃ (I:Nat→Fr→List Ob→Prop) (n:Nat),I n F H∧∀ n F H,I n F H→awp P G N body (gotoA l (fun F' H'=>∃ m,m < n∧I m F' H') Q) F H
theorem XW.sco (hmix:P.follows .mixedOrders=true) {m:Bool} {N:Nat} {okD:DL→Prop} {Q:XQ} {ls:DL} {F:Fr} {H:List Ob} {code:Code} {pre body:ACode} {l:Nat} (hc:compSco P m N code=some (pre,l,body))
  (h:awp P G N pre (thenA (LabI P G N l body (Q ls)) (noGo (Q ls))) F H):XW P G okD N (.scope code) Q ls F H:=by
 intro w0 c a hG hS hF hN hd ho
 obtain ⟨r,hf,hr,hrun⟩:=compSco_ok (G:=G) hmix code pre l body hc
 have done:∀ {c1:Cx} {H1:List Ob} {e:Exit} {a2:Act} {w2:World} {F2:Fr} {H2:List Ob} {c2:Cx},c2.w=w2→Step c H c2 H2→St w0 c2 H2→RF c2 F2 a2→a2.tmps.size=N→a2.defers=a.defers→Q ls e F2 H2→FinX G okD w0 N c H Q e a2 w2:=
  fun {c1 H1 e a2 w2 F2 H2 c2} h1 h2 h3 h4 h5 h6 h7=>.inl ⟨c2,F2,H2,ls,h1,h2,h3,h4,h5,by rw [h6]; exact hd.le h2.le,ho,h7⟩
 have pand:∀ {ch:List PanicEntry} {a2:Act} {w2:World},PanAt G w0 a.defers c H ch a2 w2→FinX G okD w0 N c H Q (.panic ch) a2 w2:=fun {ch a2 w2} ⟨c',H',u,x,p1,p2,p3,p4,p5,p6,p7,p8⟩=>
  .inr ⟨ch,c',H',u,x,ls,rfl,p1,p2,p3,p4,p5,p8,by rw [p7]; exact hd.le p2.le,ho,p6⟩
 let J:Nat→Nat→Act→World→Prop:=fun n l' a' w'=>l'=l∧∃ I:Nat→Fr→List Ob→Prop,(∀ n F H,I n F H→awp P G N body (gotoA l (fun F' H'=>∃ m,m < n∧I m F' H') (Q ls)) F H)∧Fin w0 N a.defers c H (I n) a' w'
 let Q2:Exit→Fr→List Ob→Prop:=fun e F H=>match e with
  | .goto l'=>l'=l∧∃ (I:Nat→Fr→List Ob→Prop) (n:Nat),I n F H∧∀ n F H,I n F H→awp P G N body (gotoA l (fun F' H'=>∃ m,m < n∧I m F' H') (Q ls)) F H
  | e=>Q ls e F H
 refine wp_scope_many J ?_ ?_
 ·
  have hA:AW P G N code Q2 F H:=by
   refine hrun Q2 (noGo (Q ls)) (LabI P G N l body (Q ls)) F H ?_ ?_ h
   ·intro e F H hne hq
    cases e with
    | normal=>exact absurd rfl hne
    | goto l'=>exact hq.elim
    | exit id=>exact hq
    | ret=>exact hq
    | panic ch=>exact hq
    | outgrown=>exact hq
   ·rintro F H ⟨I,n,h0,hI⟩
    refine AW.seq (AW.label ?_)
    refine AW.mono (compCode_ok hmix r body hr _ F H (hI n F H h0)) ?_
    intro e F H hq
    cases e with
    | goto l'=>obtain ⟨h1,k,_,hk⟩:=hq; exact ⟨h1,I,k,hk,hI⟩
    | normal=>exact hq
    | exit id=>exact hq
    | ret=>exact hq
    | panic ch=>exact hq
    | outgrown=>exact hq
  refine wp_mono (hA w0 a.defers c a hG hS hF hN rfl) (fun e a' w' hfin=>?_)
  rcases hfin with ⟨ch,rfl,hp⟩ | hfin
  ·exact pand hp
  ·obtain ⟨c',F',H',rfl,q2,q3,q4,q5,q6,q7⟩:=hfin.ex
   cases e with
   | goto l'=>
    obtain ⟨rfl,I,n,h1,h2⟩:=q7
    exact ⟨n,rfl,I,h2,c',F',H',rfl,q2,q3,q4,q5,q6,h1⟩
   | normal=>exact done (c1:=c) (H1:=H) rfl q2 q3 q4 q5 q6 q7
   | exit id=>exact done (c1:=c) (H1:=H) rfl q2 q3 q4 q5 q6 q7
   | ret=>exact done (c1:=c) (H1:=H) rfl q2 q3 q4 q5 q6 q7
   | panic ch=>exact done (c1:=c) (H1:=H) rfl q2 q3 q4 q5 q6 q7
   | outgrown=>exact done (c1:=c) (H1:=H) rfl q2 q3 q4 q5 q6 q7
 ·rintro n l' a1 w1 ⟨rfl,I,hI,hfin⟩
  refine ⟨_,hf,skip_seq ?_⟩
  obtain ⟨c1,F1,H1,rfl,q2,q3,q4,q5,q6,q7⟩:=hfin.ex
  refine wp_mono (compCode_ok hmix r body hr _ F1 H1 (hI n F1 H1 q7) w0 a.defers c1 a1 hG q3 q4 q5 q6) (fun e a' w' hfin=>?_)
  rcases hfin with ⟨ch,rfl,hp⟩ | hfin
  ·exact pand (hp.trans q2)
  ·obtain ⟨c',F',H',rfl,r2,r3,r4,r5,r6,r7⟩:=hfin.ex
   cases e with
   | goto l2=>
    obtain ⟨rfl,k,hk,h1⟩:=r7
    exact ⟨k,⟨rfl,I,hI,c',F',H',rfl,q2.trans r2,r3,r4,r5,r6,h1⟩,hk⟩
   | normal=>exact done (c1:=c) (H1:=H) rfl (q2.trans r2) r3 r4 r5 r6 r7
   | exit id=>exact done (c1:=c) (H1:=H) rfl (q2.trans r2) r3 r4 r5 r6 r7
   | ret=>exact done (c1:=c) (H1:=H) rfl (q2.trans r2) r3 r4 r5 r6 r7
   | panic ch=>exact done (c1:=c) (H1:=H) rfl (q2.trans r2) r3 r4 r5 r6 r7
   | outgrown=>exact done (c1:=c) (H1:=H) rfl (q2.trans r2) r3 r4 r5 r6 r7
end
end Ab
end Go.Proofs.YtgddkgbidhhheaaGreatDoor
