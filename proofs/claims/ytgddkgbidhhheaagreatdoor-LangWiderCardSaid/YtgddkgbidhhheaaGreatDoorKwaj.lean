/- Texts joined: Am3. -/
import Derived.Test.YtgddkgbidhhheaaGreatDoorKwai
import Derived.StillTail
import Derived.Laws.BitsLemmas
set_option linter.unusedVariables false
set_option linter.unusedSimpArgs false
namespace Go.Proofs.YtgddkgbidhhheaaGreatDoor
open Go.RowKit
namespace Ab
structure AOper where
 guard:Option (Nat × Bool)
 dst:Option Nat
 op:AOp
section
variable {P:Program} {G:Gs}
def skipF (F:Fr):Option Nat→Fr
 | some d=>upd F d (.tup [])
 | none=>F
def guardP (g:Option (Nat × Bool)) (F:Fr) (yes no:Prop):Prop:=
 match g with
 | none=>yes
 | some (s,b)=>match F s with
  | some (.v (.bool x))=>bif x == b then yes else no
  | some (.tup _)=>no
  | _=>False
def awpOps (P:Program) (G:Gs) (N:Nat):List AOper→(Fr→List Ob→Prop)→Fr→List Ob→Prop
 | [],K,F,H=>K F H
 | o :: r,K,F,H=>guardP o.guard F (sem P G N o.op F H (awpOps P G N r K)) (awpOps P G N r K (skipF F o.dst) H)
def gslot (ops:Array Oper) (g:Option (Nat × Bool)):Option (Option (Nat × Bool)):=
 match g with
 | none=>some none
 | some (j,b)=>match (ops[j]?).bind (·.dst) with
  | some s=>some (some (s,b))
  | none=>none
def compOper (P:Program) (N:Nat) (dp:Dp) (ops:Array Oper) (o:Oper):Option AOper:=
 match gslot ops o.guard,compOp P N o with
 | some g,some a=>if dstOk N o=true then some ⟨g,o.dst,deepO dp a⟩ else none
 | _,_=>none
theorem compOper_inv {N:Nat} {dp:Dp} {ops:Array Oper} {o:Oper} {ao:AOper} (h:compOper P N dp ops o=some ao):∃ g a,gslot ops o.guard=some g∧compOp P N o=some a∧(∀ t,o.dst=some t→t < N)∧ao=⟨g,o.dst,deepO dp a⟩:=by
 unfold compOper at h
 split at h
 ·rename_i g a hg ha
  split at h
  ·rename_i hd
   cases h
   refine ⟨g,a,hg,ha,fun t ht=>?_,rfl⟩
   unfold dstOk at hd
   rw [ht] at hd
   simpa using hd
  ·cases h
 ·cases h
def compOps (P:Program) (N:Nat) (dp:Dp) (ops:Array Oper):List Oper→Option (List AOper)
 | []=>some []
 | o :: r=>match compOper P N dp ops o,compOps P N dp ops r with
  | some a,some asx=>some (a :: asx)
  | _,_=>none
theorem Fin.trans {w0:World} {N:Nat} {ds:List Deferred} {c c':Cx} {H H':List Ob} {K:Fr→List Ob→Prop} {a:Act} {w:World} (h:Step c H c' H') (h':Fin w0 N ds c' H' K a w):Fin w0 N ds c H K a w:=by
 obtain ⟨c2,F2,H2,q1,q2,q3,q4,q5,q6,q7⟩:=h'.ex
 exact ⟨c2,F2,H2,q1,h.trans q2,q3,q4,q5,q6,q7⟩
theorem Fin.mono {w0:World} {N:Nat} {ds:List Deferred} {c:Cx} {H:List Ob} {K K':Fr→List Ob→Prop} {a:Act} {w:World} (hK:∀ F H,K F H→K' F H) (h':Fin w0 N ds c H K a w):Fin w0 N ds c H K' a w:=by
 obtain ⟨c2,F2,H2,q1,q2,q3,q4,q5,q6,q7⟩:=h'.ex
 exact ⟨c2,F2,H2,q1,q2,q3,q4,q5,q6,hK _ _ q7⟩
theorem guard_ok {c:Cx} {F:Fr} {a:Act} (hF:RF c F a) {ops:Array Oper} {o:Oper} {g:Option (Nat × Bool)} (hg:gslot ops o.guard=some g) {yes no:Prop} (h:guardP g F yes no) :
  (Region.wanted o (yielded ops a.tmps)=true∧yes)∨(Region.wanted o (yielded ops a.tmps)=false∧no):=by
 unfold gslot at hg
 cases hgd:o.guard with
 | none=>
  rw [hgd] at hg
  cases hg
  exact .inl ⟨by simp [Region.wanted,hgd],h⟩
 | some jb=>
  obtain ⟨j,b⟩:=jb
  rw [hgd] at hg
  simp only at hg
  split at hg
  ·rename_i s hs
   cases hg
   simp only [guardP] at h
   split at h
   ·rename_i x hx
    obtain ⟨u,hu1,hu2⟩:=hF s _ hx
    have hux:=hu2.inv_v.1
    have hy:yielded ops a.tmps j=some x:=by
     unfold yielded
     rw [hs,Option.bind_some,hu1,hux]
    cases hxb:x == b with
    | true=>
     rw [hxb] at h
     refine .inl ⟨?_,h⟩
     simp [Region.wanted,hgd,hy,beq_iff_eq.1 hxb]
    | false=>
     rw [hxb] at h
     refine .inr ⟨?_,h⟩
     simp only [Region.wanted,hgd,hy]
     have hne:=beq_eq_false_iff_ne.1 hxb
     simp [hne]
   ·rename_i xs hx
    obtain ⟨u,hu1,hu2⟩:=hF s _ hx
    obtain ⟨us,rfl,_⟩:=hu2.inv_tup
    have hy:yielded ops a.tmps j=none:=by
     unfold yielded
     rw [hs,Option.bind_some,hu1]
    exact .inr ⟨by simp [Region.wanted,hgd,hy],h⟩
   ·exact h.elim
  ·cases hg
theorem skip_ok {c:Cx} {F:Fr} {a:Act} (hF:RF c F a) (d:Option Nat) (hd:∀ t,d=some t→t < a.tmps.size):RF c (skipF F d) (a.put d undef):=by
 cases d with
 | none=>exact hF
 | some d=>exact hF.put (hd d rfl) (.deep (.tup [] [] rfl (fun j x u h=>by simp at h)))
theorem ops_ok {N:Nat} {ops:Array Oper} {w0:World} (hG:G.inv w0) {ds:List Deferred}:∀ (l:List Oper) (al:List AOper),compOps P N .plain ops l=some al →
  ∀ (c:Cx) (a:Act) (F:Fr) (H:List Ob) (K:Fr→List Ob→Prop) (Q:Exit→Act→World→Prop),St w0 c H→RF c F a→a.tmps.size=N→a.defers=ds→awpOps P G N al K F H →
  (∀ ch a' w',PanAt G w0 ds c H ch a' w'→Q (.panic ch) a' w')→(∀ a' w',Fin w0 N ds c H K a' w'→Q .normal a' w')→wpList P ops Q l a c.w
 | [],al,h,c,a,F,H,K,Q,hS,hF,hN,hds,hK,hQp,hQ=>by
  cases h
  exact hQ _ _ ⟨c,F,H,rfl,.refl c H,hS,hF,hN,hds,hK⟩
 | o :: l,al,h,c,a,F,H,K,Q,hS,hF,hN,hds,hK,hQp,hQ=>by
  simp only [compOps] at h
  split at h
  ·rename_i ao asx hao has
   cases h
   obtain ⟨g,op,hg,hop,hdst,rfl⟩:=compOper_inv hao
   simp only [awpOps] at hK
   unfold wpList
   rcases guard_ok hF hg hK with ⟨hw,hK⟩ | ⟨hw,hK⟩
   ·rw [if_pos hw]
    left
    refine Oper.wp_mono (fun a' w' hfin=>?_) (compOp_ok hop w0 ds c a F H _ Q hG hS hF hN hds hQp hK)
    obtain ⟨c',F',H',rfl,q2,q3,q4,q5,q6,q7⟩:=hfin.ex
    exact ops_ok hG l asx has c' a' F' H' K Q q3 q4 q5 q6 q7 (fun ch a2 w2 h2=>hQp _ _ _ (h2.trans q2)) (fun a2 w2 h2=>hQ _ _ (h2.trans q2))
   ·rw [if_neg (by rw [hw]; simp)]
    exact ops_ok hG l asx has c _ (skipF F o.dst) H K Q hS (skip_ok hF _ (by rw [hN]; exact hdst)) (by rw [size_put,hN]) (by rw [defers_put,hds]) hK hQp hQ
  ·cases h
def FinE (G:Gs) (w0:World) (N:Nat) (ds:List Deferred) (c:Cx) (H:List Ob) (Q:Exit→Fr→List Ob→Prop) (e:Exit) (a':Act) (w':World):Prop:=
 (∃ ch,e=.panic ch∧PanAt G w0 ds c H ch a' w')∨Fin w0 N ds c H (Q e) a' w'
theorem FinE.trans {G:Gs} {w0:World} {N:Nat} {ds:List Deferred} {c c':Cx} {H H':List Ob} {Q:Exit→Fr→List Ob→Prop} {e:Exit} {a:Act} {w:World} (h:Step c H c' H') (h':FinE G w0 N ds c' H' Q e a w):FinE G w0 N ds c H Q e a w:=
 h'.imp (fun ⟨ch,he,hp⟩=>⟨ch,he,hp.trans h⟩) (Fin.trans h)
def AW (P:Program) (G:Gs) (N:Nat) (code:Code) (Q:Exit→Fr→List Ob→Prop) (F:Fr) (H:List Ob):Prop:=
 ∀ (w0:World) (ds:List Deferred) (c:Cx) (a:Act),G.inv w0→St w0 c H→RF c F a→a.tmps.size=N→a.defers=ds→code.wp P (FinE G w0 N ds c H Q) a c.w
def thenA (next:Fr→List Ob→Prop) (Q:Exit→Fr→List Ob→Prop):Exit→Fr→List Ob→Prop
 | .normal,F,H=>next F H
 | e,F,H=>Q e F H
def inBlockA (id:Nat) (Q:Exit→Fr→List Ob→Prop):Exit→Fr→List Ob→Prop
 | .exit id',F,H=>if id'=id then Q .normal F H else Q (.exit id') F H
 | e,F,H=>Q e F H
section
variable {N:Nat} {Q:Exit→Fr→List Ob→Prop} {F:Fr} {H:List Ob}
theorem AW.region {id:Nat} {ops:Array Oper} {al:List AOper} (hc:compOps P N .plain ops ops.toList=some al) (h:awpOps P G N al (Q .normal) F H):AW P G N (.region id ops false) Q F H:=
 fun w0 ds c a hG hS hF hN hds=>wp_region_list (ops_ok hG ops.toList al hc c a F H (Q .normal) _ hS hF hN hds h (fun ch _ _ h=>.inl ⟨ch,rfl,h⟩) (fun _ _ h=>.inr h))
theorem AW.skip (h:Q .normal F H):AW P G N .skip Q F H:=fun w0 ds c a hG hS hF hN hds=>wp_skip (.inr ⟨c,F,H,rfl,.refl c H,hS,hF,hN,hds,h⟩)
theorem AW.label {l:Nat} (h:Q .normal F H):AW P G N (.label l) Q F H:=fun w0 ds c a hG hS hF hN hds=>wp_label (.inr ⟨c,F,H,rfl,.refl c H,hS,hF,hN,hds,h⟩)
theorem AW.exit {id:Nat} (h:Q (.exit id) F H):AW P G N (.exit id) Q F H:=fun w0 ds c a hG hS hF hN hds=>wp_exit (.inr ⟨c,F,H,rfl,.refl c H,hS,hF,hN,hds,h⟩)
theorem AW.goto {l:Nat} (h:Q (.goto l) F H):AW P G N (.goto l) Q F H:=fun w0 ds c a hG hS hF hN hds=>wp_goto (.inr ⟨c,F,H,rfl,.refl c H,hS,hF,hN,hds,h⟩)
theorem AW.ret (h:Q .ret F H):AW P G N .ret Q F H:=fun w0 ds c a hG hS hF hN hds=>wp_ret (.inr ⟨c,F,H,rfl,.refl c H,hS,hF,hN,hds,h⟩)
theorem AW.seq {x y:Code} (h:AW P G N x (thenA (AW P G N y Q) Q) F H):AW P G N (.seq x y) Q F H:=fun w0 ds c a hG hS hF hN hds=>by
 refine wp_seq (wp_mono (h w0 ds c a hG hS hF hN hds) (fun e a' w' hfin=>?_))
 rcases hfin with ⟨ch,rfl,hp⟩ | hfin
 ·exact .inl ⟨ch,rfl,hp⟩
 obtain ⟨c',F',H',rfl,q2,q3,q4,q5,q6,q7⟩:=hfin.ex
 cases e with
 | normal=>exact wp_mono (q7 w0 ds c' a' hG q3 q4 q5 q6) (fun e a2 w2 h2=>h2.trans q2)
 | exit id=>exact .inr ⟨c',F',H',rfl,q2,q3,q4,q5,q6,q7⟩
 | goto l=>exact .inr ⟨c',F',H',rfl,q2,q3,q4,q5,q6,q7⟩
 | ret=>exact .inr ⟨c',F',H',rfl,q2,q3,q4,q5,q6,q7⟩
 | panic ch=>exact .inr ⟨c',F',H',rfl,q2,q3,q4,q5,q6,q7⟩
 | outgrown=>exact .inr ⟨c',F',H',rfl,q2,q3,q4,q5,q6,q7⟩
theorem AW.mono {code:Code} {Q':Exit→Fr→List Ob→Prop} (h:AW P G N code Q F H) (hq:∀ e F H,Q e F H→Q' e F H):AW P G N code Q' F H:=fun w0 ds c a hG hS hF hN hds=>
 wp_mono (h w0 ds c a hG hS hF hN hds) (fun e a' w' hfin=>hfin.imp id (fun h=>h.mono (hq e)))
theorem AW.cond {q:Operand} {p:Opd} {x y:Code} {b:Bool} (hq:cOpd q=some p) (hb:opd F p=some (.v (.bool b))) (h:AW P G N (bif b then x else y) Q F H):AW P G N (.cond q x y) Q F H:=fun w0 ds c a hG hS hF hN hds=>by
 refine wp_cond (t:=b) (cOpd_ok hF hq hb).inv_v.1 ?_
 cases b
 ·exact h w0 ds c a hG hS hF hN hds
 ·exact h w0 ds c a hG hS hF hN hds
theorem AW.block {id:Nat} {x:Code} (h:AW P G N x (inBlockA id Q) F H):AW P G N (.block id x) Q F H:=fun w0 ds c a hG hS hF hN hds=>by
 refine wp_block (wp_mono (h w0 ds c a hG hS hF hN hds) (fun e a' w' hfin=>?_))
 rcases hfin with ⟨ch,rfl,hp⟩ | hfin
 ·exact .inl ⟨ch,rfl,hp⟩
 obtain ⟨c',F',H',rfl,q2,q3,q4,q5,q6,q7⟩:=hfin.ex
 cases e with
 | normal=>exact .inr ⟨c',F',H',rfl,q2,q3,q4,q5,q6,q7⟩
 | exit id'=>
  simp only [inBlockA] at q7
  simp only [Exit.inBlock]
  split
  ·rw [if_pos ‹_›] at q7; exact .inr ⟨c',F',H',rfl,q2,q3,q4,q5,q6,q7⟩
  ·rw [if_neg ‹_›] at q7; exact .inr ⟨c',F',H',rfl,q2,q3,q4,q5,q6,q7⟩
 | goto l=>exact .inr ⟨c',F',H',rfl,q2,q3,q4,q5,q6,q7⟩
 | ret=>exact .inr ⟨c',F',H',rfl,q2,q3,q4,q5,q6,q7⟩
 | panic ch=>exact .inr ⟨c',F',H',rfl,q2,q3,q4,q5,q6,q7⟩
 | outgrown=>exact .inr ⟨c',F',H',rfl,q2,q3,q4,q5,q6,q7⟩
theorem least (R:Nat→Prop) (h:∃ n,R n):∃ n,R n∧∀ m,R m→n≤m:=by
 obtain ⟨n,hn⟩:=h
 induction n using Nat.strongRecOn with
 | _ n ih=>
  by_cases hx:∃ m,m < n∧R m
  ·obtain ⟨m,hm,hr⟩:=hx; exact ih m hm hr
  ·exact ⟨n,hn,fun m hm=>Nat.le_of_not_lt (fun hlt=>hx ⟨m,hlt,hm⟩)⟩
open Classical in
noncomputable def leastN (R:Nat→Prop):Nat:=if h:∃ n,R n then Classical.choose (least R h) else 0
theorem leastN_spec {R:Nat→Prop} (h:∃ n,R n):R (leastN R)∧∀ m,R m→leastN R≤m:=by
 unfold leastN
 rw [dif_pos h]
 exact Classical.choose_spec (least R h)
theorem AW.loop {x:Code} (I:Nat→Fr→List Ob→Prop) (n:Nat) (h0:I n F H) (round:∀ n F H,I n F H→AW P G N x (thenA (fun F' H'=>∃ m,m < n∧I m F' H') Q) F H):AW P G N (.loop x) Q F H:=fun w0 ds c a hG hS hF hN hds=>by
 let R:Act→World→Nat→Prop:=fun a' w' n=>Fin w0 N ds c H (I n) a' w'
 refine wp_loop (fun a' w'=>∃ n,R a' w' n) (fun a' w'=>leastN (R a' w')) ⟨n,⟨c,F,H,rfl,.refl c H,hS,hF,hN,hds,h0⟩⟩ (fun a' w' hx=>?_)
 have hm:=(leastN_spec hx).1
 obtain ⟨c',F',H',rfl,q2,q3,q4,q5,q6,q7⟩:=hm.ex
 refine wp_mono (round _ F' H' q7 w0 ds c' a' hG q3 q4 q5 q6) (fun e a2 w2 hfin=>?_)
 rcases hfin with ⟨ch,rfl,hp⟩ | hfin
 ·exact .inl ⟨ch,rfl,hp.trans q2⟩
 obtain ⟨c2,F2,H2,rfl,p2,p3,p4,p5,p6,p7⟩:=hfin.ex
 cases e with
 | normal=>
  obtain ⟨m,hmlt,hI⟩:=p7
  have hx1:R a2 c2.w m:=⟨c2,F2,H2,rfl,q2.trans p2,p3,p4,p5,p6,hI⟩
  exact ⟨⟨m,hx1⟩,Nat.lt_of_le_of_lt ((leastN_spec ⟨m,hx1⟩).2 m hx1) hmlt⟩
 | exit id=>exact .inr ⟨c2,F2,H2,rfl,q2.trans p2,p3,p4,p5,p6,p7⟩
 | goto l=>exact .inr ⟨c2,F2,H2,rfl,q2.trans p2,p3,p4,p5,p6,p7⟩
 | ret=>exact .inr ⟨c2,F2,H2,rfl,q2.trans p2,p3,p4,p5,p6,p7⟩
 | panic ch=>exact .inr ⟨c2,F2,H2,rfl,q2.trans p2,p3,p4,p5,p6,p7⟩
 | outgrown=>exact .inr ⟨c2,F2,H2,rfl,q2.trans p2,p3,p4,p5,p6,p7⟩
end
end
end Ab
end Go.Proofs.YtgddkgbidhhheaaGreatDoor
namespace Go.Proofs.YtgddkgbidhhheaaGreatDoor
open Go.RowKit
namespace Ab
section
variable {P:Program} {G:Gs}
def AC (P:Program) (G:Gs) (f:FuncId) (args:List AV) (objs:List Ob) (post:AV→List Ob→Prop):Prop:=
 ∀ (w0:World) (c:Cx) (vs:Array Value),G.inv w0→St w0 c objs→(vs.size=args.length∧∀ (j:Nat) (x:AV),args[j]? = some x→∃ u,vs[j]? = some u∧RV c x u) →
  Calls P f vs c.w fun e w'=>(∃ (c':Cx) (u:Value) (x:AV) (objs':List Ob),c'.w=w'∧e=.returned u∧Step c objs c' objs'∧St w0 c' objs'∧RV c' x u∧post x objs') ∨
   ∃ (ch:List PanicEntry) (c':Cx) (objs':List Ob) (u:Value) (x:AV),e=.panicked ch∧c'.w=w'∧Step c objs c' objs'∧St w0 c' objs'∧ch=[{ v:=u,recovered:=false }]∧RD c'.w c'.M x u∧G.pan x objs'
def argF (args:List AV):Fr:=fun t=>args[t]?
def resA (F:Fr):List Nat→Option (List AV)
 | []=>some []
 | t :: r=>match F t,resA F r with
  | some x,some xs=>some (x :: xs)
  | _,_=>none
inductive RSlot where
 | tmp (t:Nat)
 | cell (t:Nat) (ag:Bool) (sz:Nat)
def rget (F:Fr) (H:List Ob):RSlot→Option AV
 | .tmp t=>F t
 | .cell t ag sz=>match (F t).bind (adr H) with
  | some (cs,off)=>bif ag then (if off + sz≤cs.length then some (.agg ((cs.drop off).take sz)) else none) else cs[off]?
  | none=>none
def rgets (F:Fr) (H:List Ob):List RSlot→Option (List AV)
 | []=>some []
 | r :: rs=>match rget F H r,rgets F H rs with
  | some x,some xs=>some (x :: xs)
  | _,_=>none
def rval:List AV→AV
 | [x]=>x
 | xs=>.tup xs
def compRes (P:Program):List ResultVar→Option (List RSlot)
 | []=>some []
 | .tmp t :: r=>match compRes P r with
  | some l=>some (.tmp t :: l)
  | none=>none
 | .cell t ty :: r=>match P.underlying ty,P.info? ty,compRes P r with
  | some td,some i,some l=>some (.cell t (isAggD td) i.size :: l)
  | _,_,_=>none
def resSem (tmps:Array Value):ResultVar→Sem Value
 | .tmp t=>pure (tmps.getD t undef)
 | .cell p t=>do loadVar t (← asAddr (tmps.getD p undef))
theorem results_eq (fn:Func) (tmps:Array Value):results fn tmps=(do let vs ← fn.results.mapM (resSem tmps); pure (if h:vs.size=1 then vs[0] else .tuple vs)):=by
 unfold results
 congr 1
theorem run_asAddr (b:Addr) (w:World):(asAddr (.pointer (some b))).run P w=.ok b w:=rfl
theorem run_rget {w0 : World} {c : Cx} {H : List Ob} (hS : St w0 c H) {F : Fr} {a : Act} (hF : RF c F a) : ∀ (rs : List ResultVar) (sl : List RSlot), compRes P rs = some sl → ∀ (xs : List AV), rgets F H sl = some xs →
    ∃ us : List Value, (rs.mapM (resSem a.tmps)).run P c.w = .ok us c.w ∧ us.length = xs.length ∧ ∀ (j : Nat) (x : AV) (u : Value), xs[j]? = some x → us[j]? = some u → RV c x u
  | [], sl, h, xs, hx => by cases h; cases hx; exact ⟨[], rfl, rfl, fun j x u h => by simp at h⟩
  | .tmp t :: rs, sl, h, xs, hx => by
    simp only [compRes] at h
    split at h
    · rename_i l hl
      cases h
      simp only [rgets, rget] at hx
      split at hx
      · rename_i x xs' h1 h2
        cases hx
        obtain ⟨us, r1, r2, r3⟩ := run_rget hS hF rs l hl xs' h2
        have hv := hF.eval h1
        refine ⟨a.eval (.tmp t) :: us, ?_, by simp [r2], fun j y u hy hu => ?_⟩
        · rw [List.mapM_cons]
          simp only [resSem, Sem.run_bind, Sem.run_pure, Result.andThen_ok, r1]
          rfl
        · cases j with
          | zero => cases hy; cases hu; exact hv
          | succ j => exact r3 j y u hy hu
      · cases hx
    · cases h
  | .cell t ty :: rs, sl, h, xs, hx => by
    simp only [compRes] at h
    split at h
    · rename_i td i l hu hi hl
      cases h
      simp only [rgets, rget] at hx
      split at hx
      · rename_i x xs' h1 h2
        cases hx
        obtain ⟨us, r1, r2, r3⟩ := run_rget hS hF rs l hl xs' h2
        split at h1
        · rename_i cs off hadr
          obtain ⟨y, hy, hadr⟩ := Option.bind_eq_some_iff.1 hadr
          obtain ⟨b, q, us0, he, hrl, hb, hc⟩ := adr_ok hS (hF.eval hy) hadr
          have he' : a.tmps.getD t undef = .pointer (some ⟨b, q + off, none⟩) := he
          have key : ∃ v, (loadVar ty ⟨b, q + off, none⟩).run P c.w = .ok v c.w ∧ RV c x v := by
            cases hag : isAggD td with
            | true =>
              rw [hag] at h1
              simp only [cond_true] at h1
              split at h1
              · rename_i hlen
                cases h1
                have hr := (hrl.drop off).take i.size
                have hl : ((us0.drop off).take i.size).length = i.size := by rw [List.length_take, List.length_drop, hrl.len]; omega
                have hlc := run_loadCells_list (P := P) c.w ⟨b, q + off, none⟩ ((us0.drop off).take i.size) (fun j v hv => by
                  rw [Go.WideShapes.add_plain]
                  rw [List.getElem?_take] at hv
                  split at hv
                  · rw [List.getElem?_drop] at hv
                    have := hc _ v hv
                    rwa [← Nat.add_assoc] at this
                  · cases hv)
                rw [hl] at hlc
                exact ⟨_, by simp [loadVar, run_isAgg hu, hag, run_sizeOf' hi, hlc], .agg _ _ hr.len hr.one hr.at'⟩
              · cases h1
            | false =>
              rw [hag] at h1
              simp only [cond_false] at h1
              obtain ⟨v, hv1, hv2, _⟩ := hrl.get h1
              exact ⟨v, by simp [loadVar, run_isAgg hu, hag, hc _ v hv1], hv2⟩
          obtain ⟨v, hv1, hv2⟩ := key
          refine ⟨v :: us, ?_, by simp [r2], fun j y u hy hu => ?_⟩
          · rw [List.mapM_cons]
            simp only [resSem, Sem.run_bind, Sem.run_pure, Result.andThen_ok, he', run_asAddr, hv1, r1]
          · cases j with
            | zero => cases hy; cases hu; exact hv2
            | succ j => exact r3 j y u hy hu
        · cases h1
      · cases hx
    · cases h
theorem run_results {fn:Func} {sl:List RSlot} (hr:compRes P fn.results.toList=some sl) {w0:World} {c:Cx} {H:List Ob} (hS:St w0 c H) {F:Fr} {a:Act} (hF:RF c F a) {xs:List AV} (hx:rgets F H sl=some xs) :
  ∃ v,(results fn a.tmps).run P c.w=.ok v c.w∧RV c (rval xs) v:=by
 obtain ⟨us,h1,h2,h3⟩:=run_rget (P:=P) hS hF _ _ hr _ hx
 have hm:(fn.results.mapM (resSem a.tmps)).run P c.w=.ok us.toArray c.w:=by
  rw [Array.mapM_eq_mapM_toList,Sem.run_map,h1]; rfl
 match us,xs,h2 with
 | [],[],_=>
  refine ⟨.tuple #[],?_,.tup [] [] rfl (fun j x u h=>by simp at h)⟩
  rw [results_eq]
  simp only [Sem.run_bind]
  rw [hm]; rfl
 | [u],[x],_=>
  refine ⟨u,?_,h3 0 x u rfl rfl⟩
  rw [results_eq]
  simp only [Sem.run_bind]
  rw [hm]; rfl
 | u :: u' :: us,x :: x' :: xs,h2=>
  refine ⟨.tuple (u :: u' :: us).toArray,?_,.tup _ _ (by simpa using h2) h3⟩
  rw [results_eq]
  simp only [Sem.run_bind]
  rw [hm]
  simp
end
end Ab
end Go.Proofs.YtgddkgbidhhheaaGreatDoor
namespace Go.Proofs.YtgddkgbidhhheaaGreatDoor
open Go.RowKit
namespace Ab
section
variable {P:Program} {G:World→Prop} {Gp:Gs}
def frzE (H:List Ob):AV→List Ob × AV
 | .agg cs=>((frzL H cs).1,.agg (frzL H cs).2)
 | x=>frz1 H x
def frzT:List Ob→List AV→List Ob × List AV
 | H,[]=>(H,[])
 | H,x :: r=>((frzT (frzE H x).1 r).1,(frzE H x).2 :: (frzT (frzE H x).1 r).2)
def frzV (H:List Ob):AV→List Ob × AV
 | .tup xs=>((frzT H xs).1,.tup (frzT H xs).2)
 | x=>frzE H x
def deepV:AV→Bool
 | .tup xs=>xs.all deepE
 | x=>deepE x
theorem frzE_ok {w0:World} {c:Cx} {H:List Ob} (hS:St w0 c H) {x:AV} {u:Value} (hx:RV c x u) :
  ∃ c',c'.w=c.w∧St w0 c' (frzE H x).1∧Step c H c' (frzE H x).1∧RV c' (frzE H x).2 u:=by
 cases x with
 | agg cs=>
  obtain ⟨us,rfl,hrl⟩:=hx.inv_agg
  obtain ⟨c1,e1,s1,t1,v1⟩:=frzL_ok cs hS hrl
  exact ⟨c1,e1,s1,t1,.agg _ _ v1.len v1.one v1.at'⟩
 | _=>exact frz1_ok hS hx
theorem frzT_ok {w0:World}:∀ (xs:List AV) {c:Cx} {H:List Ob},St w0 c H→∀ {us:List Value},us.length=xs.length→(∀ (j:Nat) (x:AV) (u:Value),xs[j]? = some x→us[j]? = some u→RV c x u) →
  ∃ c',c'.w=c.w∧St w0 c' (frzT H xs).1∧Step c H c' (frzT H xs).1∧us.length=(frzT H xs).2.length∧(∀ (j:Nat) (x:AV) (u:Value),(frzT H xs).2[j]? = some x→us[j]? = some u→RV c' x u)
 | [],c,H,hS,us,hl,h=>⟨c,rfl,hS,.refl c H,hl,fun j x u h=>by simp [frzT] at h⟩
 | x :: r,c,H,hS,us,hl,h=>by
  cases us with
  | nil=>simp at hl
  | cons u us=>
   obtain ⟨c1,e1,s1,t1,v1⟩:=frzE_ok hS (h 0 x u rfl rfl)
   obtain ⟨c2,e2,s2,t2,l2,v2⟩:=frzT_ok r s1 (us:=us) (by simpa using hl) (fun j y v a b=>(h (j + 1) y v (by simpa using a) (by simpa using b)).le t1.le)
   refine ⟨c2,e2.trans e1,s2,t1.trans t2,by simp [frzT,l2],fun j y v a b=>?_⟩
   cases j with
   | zero=>simp only [frzT,List.getElem?_cons_zero,Option.some.injEq] at a b; subst a; subst b; exact v1.le t2.le
   | succ j=>simp only [frzT,List.getElem?_cons_succ] at a b; exact v2 j y v a b
theorem frzV_ok {w0:World} {c:Cx} {H:List Ob} (hS:St w0 c H) {x:AV} {u:Value} (hx:RV c x u) :
  ∃ c',c'.w=c.w∧St w0 c' (frzV H x).1∧Step c H c' (frzV H x).1∧RV c' (frzV H x).2 u:=by
 cases x with
 | tup xs=>
  obtain ⟨us,rfl,hl,hr⟩:=hx.inv_tup
  obtain ⟨c1,e1,s1,t1,l1,v1⟩:=frzT_ok xs hS hl hr
  exact ⟨c1,e1,s1,t1,.tup _ _ l1 v1⟩
 | _=>exact frzE_ok hS hx
theorem RV.rdV {c:Cx} {x:AV} {u:Value} (h:RV c x u) (hd:deepV x=true):RD c.w c.M x u:=by
 cases x with
 | tup xs=>
  obtain ⟨us,rfl,hl,hr⟩:=h.inv_tup
  exact .tup _ _ hl (fun j y v a b=>(hr j y v a b).rdE (List.all_eq_true.1 hd y (List.mem_of_getElem? a)))
 | _=>exact h.rdE hd
def AP (P:Program) (G:World→Prop) (f:FuncId) (args:List AV) (post:AV→Prop):Prop:=
 ∀ (w0 w:World) (M:Nat→Prop) (vs:Array Value),G w0→Below w0.heap.size w0 w→(∀ b,M b→b < w.heap.size)→(vs.size=args.length∧∀ (j:Nat) (x:AV),args[j]? = some x→∃ u,vs[j]? = some u∧RD w M x u) →
  Calls P f vs w fun e w'=>∃ (u:Value) (x:AV),e=.returned u∧Below w.heap.size w w'∧RD w' M x u∧post x
theorem AP.mono {f:FuncId} {args:List AV} {post post':AV→Prop} (h:AP P G f args post) (hp:∀ x,post x→post' x):AP P G f args post':=fun w0 w M vs a b c d=>
 (h w0 w M vs a b c d).mono fun e w' ⟨u,x,h1,h2,h3,h4⟩=>⟨u,x,h1,h2,h3,hp x h4⟩
theorem AP.ofAC {f:FuncId} {args:List AV} {post:AV→Prop} (h:AC P (.np G) f args [] (fun x H=>deepV (frzV H x).2=true∧post (frzV H x).2)):AP P G f args post:=by
 intro w0 w M vs hG hb hM ⟨hvs,hargs⟩
 let c:Cx:={ w:=w,M:=M,k:=0,born:=fun _=>False,β:=fun _=>0,sv:=fun _=>undef }
 have hS:St w0 c []:=⟨rfl,fun _ h=>h.elim,fun i o h=>by simp at h,fun i j oi oj h=>by simp at h,fun b ⟨i,o,h,_⟩=>by simp at h,hM,hb⟩
 refine (h w0 c vs hG hS ⟨hvs,fun j x hx=>?_⟩).mono ?_
 ·obtain ⟨u,hu,hr⟩:=hargs j x hx
  exact ⟨u,hu,.deep hr⟩
 ·rintro e w' (⟨c',u,x,H',rfl,he,hst,hs',hv,hd,hp⟩ | ⟨_,_,_,_,_,_,_,_,_,_,_,hp⟩)
  case inr=>exact hp.elim
  obtain ⟨c2,e2,s2,t2,v2⟩:=frzV_ok hs' hv
  have ht:=hst.trans t2
  have hno:∀ b,¬ Wr c [] b:=fun b ⟨i,o,h,_⟩=>by simp at h
  have hrd:=v2.rdV hd
  rw [e2] at hrd
  refine ⟨u,_,he,⟨hst.os,hst.tape,hst.output,hst.le.size,fun b hb=>hst.same b hb (hno b)⟩,?_,hp⟩
  exact hrd.mono (Nat.le_refl _) (fun b _ hn=>⟨rfl,fun hm=>hn (ht.mw b (hM b hm) (hno b) hm)⟩)
def evA (F:Fr):List Opd→Option (List AV)
 | []=>some []
 | p :: r=>match opd F p,evA F r with
  | some x,some xs=>some (x :: xs)
  | _,_=>none
def putF (F:Fr) (d:Option Nat) (x:AV):Fr:=
 match d with
 | some d=>upd F d x
 | none=>F
theorem evA_at {F:Fr}:∀ (ps:List Opd) (xs:List AV),evA F ps=some xs→ps.length=xs.length∧∀ (j:Nat) (x:AV),xs[j]? = some x→∃ p,ps[j]? = some p∧opd F p=some x
 | [],xs,h=>by cases h; exact ⟨rfl,fun j x h=>by simp at h⟩
 | p :: ps,xs,h=>by
  simp only [evA] at h
  split at h
  ·rename_i x xs' h1 h2
   cases h
   obtain ⟨g1,g2⟩:=evA_at ps xs' h2
   refine ⟨by simp [g1],fun j y hy=>?_⟩
   cases j with
   | zero=>cases hy; exact ⟨p,rfl,h1⟩
   | succ j=>exact g2 j y hy
  ·cases h
theorem RF.putF {c:Cx} {F:Fr} {a:Act} (h:RF c F a) {d:Option Nat} (hd:∀ t,d=some t→t < a.tmps.size) {x:AV} {u:Value} (hx:RV c x u):RF c (putF F d x) (a.put d u):=by
 cases d with
 | none=>exact h
 | some t=>exact h.put (hd t rfl) hx
theorem SCall.frz {N : Nat} {d : Option Nat} (hdN : ∀ t, d = some t → t < N) {f : FuncId} {args : List Opd} {F : Fr} {H : List Ob} {K : Fr → List Ob → Prop} {xs : List AV} (hx : evA F args = some xs) {post : AV → Prop}
    (hA : AP P Gp.inv f (frzT H xs).2 post) (hd : (frzT H xs).2.all deepE = true) (hK : ∀ x, post x → K (putF F d x) (frzT H xs).1) : SCall P Gp N d f args F H K := by
  intro w0 ds c a vs hG hS hF hN hds ⟨hvl, hvs⟩
  obtain ⟨g1, g2⟩ := evA_at args xs hx
  obtain ⟨c1, e1, s1, t1, l1, v1⟩ := frzT_ok xs hS (us := vs.toList) (by simp [hvl, g1]) (fun j x u hx hu => by
    obtain ⟨p, hp, hpx⟩ := g2 j x hx
    obtain ⟨u', hu', hr⟩ := hvs j p x hp hpx
    rw [Array.getElem?_toList] at hu
    rw [hu'] at hu; cases hu; exact hr)
  have hb := s1.below
  rw [e1] at hb
  refine (hA w0 c.w c1.M vs hG hb (fun b hb => by rw [← e1]; exact s1.mlt b hb) ⟨by rw [← l1]; simp, fun j x hx => ?_⟩).mono ?_
  · have hj : j < vs.size := by have := (List.getElem?_eq_some_iff.1 hx).1; rw [← l1] at this; simpa using this
    refine ⟨vs[j], Array.getElem?_eq_getElem hj, ?_⟩
    have := (v1 j x vs[j] hx (by simp [hj])).rdE (List.all_eq_true.1 hd x (List.mem_of_getElem? hx))
    rwa [e1] at this
  · rintro e w' ⟨u, x, rfl, hbl, hrd, hp⟩
    refine .inl ⟨u, rfl, ?_⟩
    rw [← e1] at hbl
    obtain ⟨s2, t2⟩ := below_st s1 hbl
    have ht := t1.trans t2
    exact ⟨⟨c1.at w', _, _, rfl, ht, s2, (hF.le ht.le).putF (fun t h => by rw [hN]; exact hdN t h) (.deep hrd), by rw [size_put, hN], by rw [defers_put, hds], hK x hp⟩⟩
def snapE (H:List Ob):AV→AV
 | .row i=>match H[i]? with
  | some (.own _ _ n cs)=>.sl n cs
  | some (.fro n cs)=>.sl n cs
  | _=>.row i
 | .ptr i off=>match H[i]? with
  | some (.var cs)=>bif cs.all deep1 then .ep cs off else .ptr i off
  | _=>.ptr i off
 | .v (.slice none _ _)=>.sl 0 []
 | x=>x
def flatE:AV→Bool
 | .v _=>true
 | .agg cs=>cs.all fun x=>match x with | .v _=>true | _=>false
 | _=>false
def flatV:AV→Bool
 | .tup xs=>xs.all flatE
 | x=>flatE x
end
end Ab
end Go.Proofs.YtgddkgbidhhheaaGreatDoor
namespace Go.Proofs.YtgddkgbidhhheaaGreatDoor
open Go.RowKit
namespace Ab
section
variable {P:Program} {G:Gs}
def opdS:Opd→List Nat
 | .t n=>[n]
 | .k _=>[]
def opdsS:Option Opd→List Nat
 | none=>[]
 | some p=>opdS p
def partsS:List (Nat × Opd)→List Nat
 | []=>[]
 | (_,p) :: r=>opdS p++partsS r
def argsS:List Opd→List Nat
 | []=>[]
 | p :: r=>opdS p++argsS r
def slots:AOp→List Nat
 | .mov _ x=>opdS x
 | .pick _ q x y=>opdS q++(opdS x++opdS y)
 | .ld _ _ _ x=>opdS x
 | .fad _ _ x=>opdS x
 | .ixa _ _ x i=>opdS x++opdS i
 | .len _ _ x=>opdS x
 | .bin _ _ x y=>opdS x++opdS y
 | .cat _ x y=>opdS x++opdS y
 | .eqb _ _ x y=>opdS x++opdS y
 | .eqc _ _ x y=>opdS x++opdS y
 | .un _ _ x=>opdS x
 | .cvi _ _ x=>opdS x
 | .cvb _ x=>opdS x
 | .cvs _ x=>opdS x
 | .ixs _ x i=>opdS x++opdS i
 | .slS _ x lo hi=>opdS x++(opdsS lo++opdsS hi)
 | .slc _ _ x lo hi=>opdS x++(opdsS lo++opdsS hi)
 | .ext _ _ x=>opdS x
 | .fld _ _ _ _ x=>opdS x
 | .var _ _=>[]
 | .box _ x=>opdS x
 | .st _ p x=>opdS p++opdS x
 | .bld _ _ _ ps=>partsS ps
 | .bsl _ _ _ _ _ ps=>partsS ps
 | .mks _ _ _ _ l=>opdS l
 | .app _ _ _ _ s x=>opdS s++opdS x
 | .aps _ _ s x=>opdS s++opdS x
 | .nilc _ x=>opdS x
 | .mm _ _ xs=>argsS xs
 | .cvm _ _ _ x=>opdS x
 | .eqs _ _ _ x y=>opdS x++opdS y
 | .ldd _ _ _ x ps=>opdS x++argsS ps
 | .ixd _ _ x i=>opdS x++opdS i
 | .call _ _ args=>argsS args
 | .mki _ _ x=>opdS x
 | .tas _ _ _ _ x=>opdS x
 | .mkf _ _ ps=>argsS ps
 | .mkm _ _=>[]
 | .mup _ m k x=>opdS m++(opdS k++opdS x)
 | .lku _ _ _ _ m k=>opdS m++opdS k
 | .men _ _ _ m k=>opdS m++opdS k
 | .mes m s x=>opdS m++(opdS s++opdS x)
 | .slo _ _ x lo hi=>opdS x++(opdsS lo++opdsS hi)
 | .callv _ x args=>opdS x++argsS args
 | .pan x=>opdS x
 | .boxt _ _ x=>opdS x
 | .usd _ x=>opdS x
 | .ust _ _ x n=>opdS x++opdS n
def dstA:AOp→Option Nat
 | .mov d _=>some d
 | .pick d _ _ _=>some d
 | .ld d _ _ _=>some d
 | .fad d _ _=>some d
 | .ixa d _ _ _=>some d
 | .len d _ _=>some d
 | .bin d _ _ _=>some d
 | .cat d _ _=>some d
 | .eqb d _ _ _=>some d
 | .eqc d _ _ _=>some d
 | .un d _ _=>some d
 | .cvi d _ _=>some d
 | .cvb d _=>some d
 | .cvs d _=>some d
 | .ixs d _ _=>some d
 | .slS d _ _ _=>some d
 | .slc d _ _ _ _=>some d
 | .ext d _ _=>some d
 | .fld d _ _ _ _=>some d
 | .var d _=>some d
 | .box d _=>some d
 | .st _ _ _=>none
 | .bld d _ _ _=>some d
 | .bsl d _ _ _ _ _=>some d
 | .mks d _ _ _ _=>some d
 | .app d _ _ _ _ _=>some d
 | .aps d _ _ _=>some d
 | .nilc d _=>some d
 | .mm d _ _=>some d
 | .cvm d _ _ _=>some d
 | .eqs d _ _ _ _=>some d
 | .ldd d _ _ _ _=>some d
 | .ixd d _ _ _=>some d
 | .call d _ _=>d
 | .mki d _ _=>some d
 | .tas d _ _ _ _=>some d
 | .mkf d _ _=>some d
 | .mkm d _=>some d
 | .mup ..=>none
 | .lku d _ _ _ _ _=>some d
 | .men d _ _ _ _=>some d
 | .mes ..=>none
 | .slo d _ _ _ _=>some d
 | .callv d _ _=>d
 | .pan _=>none
 | .boxt d _ _=>some d
 | .usd d _=>some d
 | .ust d _ _ _=>some d
def quietK:AOp→Bool
 | .mov ..=>true
 | .pick ..=>true
 | .ld ..=>true
 | .fad ..=>true
 | .ixa ..=>true
 | .len ..=>true
 | .bin ..=>true
 | .cat ..=>true
 | .eqb ..=>true
 | .eqc ..=>true
 | .un ..=>true
 | .cvi ..=>true
 | .cvb ..=>true
 | .cvs ..=>true
 | .ixs ..=>true
 | .slS ..=>true
 | .slc ..=>true
 | .ext ..=>true
 | .fld ..=>true
 | .bld ..=>true
 | .nilc ..=>true
 | .mm ..=>true
 | .eqs ..=>true
 | .ldd ..=>true
 | .ixd ..=>true
 | .mki ..=>true
 | .tas ..=>true
 | .mkf ..=>true
 | .lku ..=>true
 | .usd ..=>true
 | _=>false
def hreadK:AOp→Bool
 | .ld ..=>true
 | .ixa ..=>true
 | .len ..=>true
 | .cvb ..=>true
 | .slc ..=>true
 | .bsl ..=>true
 | .call ..=>true
 | .lku ..=>true
 | .usd ..=>true
 | _=>false
def chainK:AOp→Bool
 | .st ..=>true
 | .app ..=>true
 | .aps ..=>true
 | .mkm ..=>true
 | .mup ..=>true
 | .men ..=>true
 | .mes ..=>true
 | .ust ..=>true
 | _=>false
def Agree (l:List Nat) (F F2:Fr):Prop:=∀ t ∈ l,F2 t=F t
theorem agree_opd {p:Opd} {F F2:Fr} {l:List Nat} (h:Agree l F F2) (hs:∀ t ∈ opdS p,t ∈ l):opd F2 p=opd F p:=by
 cases p with
 | t n=>exact h n (hs n (by simp [opdS]))
 | k x=>rfl
theorem agree_bopd {p:Option Opd} {F F2:Fr} {l:List Nat} (h:Agree l F F2) (hs:∀ t ∈ opdsS p,t ∈ l) (z:Int):bOpd F2 p z=bOpd F p z:=by
 cases p with
 | none=>rfl
 | some q=>simp only [bOpd]; rw [agree_opd h hs]
theorem agree_parts {F F2:Fr} {l:List Nat} (h:Agree l F F2):∀ (ps:List (Nat × Opd)),(∀ t ∈ partsS ps,t ∈ l)→evP F2 ps=evP F ps
 | [],_=>rfl
 | (i,p) :: ps,hs=>by
  simp only [evP]
  rw [agree_opd h (fun t ht=>hs t (by simp [partsS,ht])),agree_parts h ps (fun t ht=>hs t (by simp [partsS,ht]))]
theorem agree_evL {F F2:Fr} {l:List Nat} (h:Agree l F F2):∀ (ps:List Opd),(∀ t ∈ argsS ps,t ∈ l)→evL F2 ps=evL F ps
 | [],_=>rfl
 | p :: ps,hs=>by
  simp only [evL]
  rw [agree_opd h (fun t ht=>hs t (by simp [argsS,ht])),agree_evL h ps (fun t ht=>hs t (by simp [argsS,ht]))]
theorem agree_args {F F2:Fr} {l:List Nat} (h:Agree l F F2):∀ (ps:List Opd),(∀ t ∈ argsS ps,t ∈ l)→evA F2 ps=evA F ps
 | [],_=>rfl
 | p :: ps,hs=>by
  simp only [evA]
  rw [agree_opd h (fun t ht=>hs t (by simp [argsS,ht])),agree_args h ps (fun t ht=>hs t (by simp [argsS,ht]))]
theorem farP_agree {F F2:Fr} {l:List Nat} (h:Agree l F F2):∀ {ps:List Opd} {i:Nat},(∀ t ∈ argsS ps,t ∈ l)→farP F2 ps i=farP F ps i
 | [],i,_=>rfl
 | p :: ps,i,hs=>by
  have e1:=agree_opd (p:=p) h (fun t ht=>hs t (by simp [argsS,ht]))
  have e2:=farP_agree h (ps:=ps) (i:=i) (fun t ht=>hs t (by simp [argsS,ht]))
  unfold farP at e2 ⊢
  rw [List.all_cons,List.all_cons,e1,e2]
def KeepV (o:AOp) (F:Fr) (H H2:List Ob):Prop:=
 match o with
 | .ldd _ _ _ _ ps=>∀ (id:Nat) (cs:List AV),H[id]? = some (.var cs)→farP F ps id=true→H2[id]? = some (.var cs)
 | _=>True
theorem KeepV.same (o:AOp) (F:Fr) (H:List Ob):KeepV o F H H:=by
 cases o<;>first | trivial | exact fun id cs h _=>h
theorem quiet_val {N:Nat} {o:AOp} (hq:quietK o=true) {F:Fr} {H:List Ob} {K:Fr→List Ob→Prop} (h:sem P G N o F H K) :
  ∃ x,K (putF F (dstA o) x) H∧∀ (F2:Fr) (H2:List Ob),Agree (slots o) F F2→(hreadK o=true→H2=H)→KeepV o F H H2→∀ (K2:Fr→List Ob→Prop),K2 (putF F2 (dstA o) x) H2→sem P G N o F2 H2 K2:=by
 cases o with
 | mov d x=>
  simp only [sem,sMov] at h ⊢
  split at h
  ·rename_i y hy
   refine ⟨y,h,fun F2 H2 ha _ hkv K2 hk=>?_⟩
   rw [agree_opd (p:=x) ha (fun t ht=>ht),hy]; exact hk
  ·exact h.elim
 | pick d q x y=>
  simp only [sem,sPick] at h ⊢
  split at h
  ·rename_i b hb
   split at h
   ·rename_i z hz
    refine ⟨z,h,fun F2 H2 ha _ hkv K2 hk=>?_⟩
    rw [agree_opd (p:=q) ha (fun t ht=>by simp [slots,ht]),hb]
    simp only
    rw [agree_opd (p:=x) ha (fun t ht=>by simp [slots,ht]),agree_opd (p:=y) ha (fun t ht=>by simp [slots,ht]),hz]; exact hk
   ·exact h.elim
  ·exact h.elim
 | ld d ag sz x=>
  simp only [sem,sLd] at h ⊢
  split at h
  ·rename_i cs off hz
   cases ag with
   | true=>
    obtain ⟨h1,h2⟩:=h
    refine ⟨_,h2,fun F2 H2 ha hh hkv K2 hk=>?_⟩
    rw [hh rfl,agree_opd (p:=x) ha (fun t ht=>ht),hz]
    exact ⟨h1,by rw [hh rfl] at hk; exact hk⟩
   | false=>
    simp only [cond_false] at h
    split at h
    ·rename_i y hy
     refine ⟨y,h,fun F2 H2 ha hh hkv K2 hk=>?_⟩
     rw [hh rfl,agree_opd (p:=x) ha (fun t ht=>ht),hz]
     simp only [cond_false]
     rw [hy]; rw [hh rfl] at hk; exact hk
    ·exact h.elim
  ·exact h.elim
 | ldd d ag sz x ps=>
  simp only [sem,sLdd] at h ⊢
  have sub:∀ {F2:Fr},Agree (slots (.ldd d ag sz x ps)) F F2→opd F2 x=opd F x:=fun ha=>agree_opd (p:=x) ha (fun t ht=>by simp [slots,ht])
  split at h
  ·rename_i cs off hy
   have hz:∀ H':List Ob,(opd F x).bind (adr H')=some (cs,off):=fun H'=>by rw [hy]; rfl
   simp only [sLd,hz] at h
   cases ag with
   | true=>
    obtain ⟨h1,h2⟩:=h
    refine ⟨_,h2,fun F2 H2 ha _ hkv K2 hk=>?_⟩
    have e:=sub ha
    rw [e,hy]
    simp only [sLd,e,hz]
    exact ⟨h1,hk⟩
   | false=>
    simp only [cond_false] at h
    split at h
    ·rename_i y hyy
     refine ⟨y,h,fun F2 H2 ha _ hkv K2 hk=>?_⟩
     have e:=sub ha
     rw [e,hy]
     simp only [sLd,e,hz,cond_false]
     rw [hyy]; exact hk
    ·exact h.elim
  ·rename_i i off hy
   split at h
   ·rename_i cs hi
    obtain ⟨hf,h⟩:=h
    have hz:∀ H':List Ob,H'[i]? = some (.var cs)→(opd F x).bind (adr H')=some (cs,off):=fun H' hi'=>by rw [hy]; simp [adr,hi']
    simp only [sLd,hz H hi] at h
    have far2:∀ {F2:Fr},Agree (slots (.ldd d ag sz x ps)) F F2→farP F2 ps i=true:=fun ha=>by rw [farP_agree ha (fun t ht=>by simp [slots,ht])]; exact hf
    cases ag with
    | true=>
     obtain ⟨h1,h2⟩:=h
     refine ⟨_,h2,fun F2 H2 ha _ hkv K2 hk=>?_⟩
     have e:=sub ha
     have hi2:H2[i]? = some (.var cs):=hkv i cs hi hf
     rw [e,hy]
     simp only [sLd,e,hz H2 hi2,hi2]
     exact ⟨far2 ha,h1,hk⟩
    | false=>
     simp only [cond_false] at h
     split at h
     ·rename_i y hyy
      refine ⟨y,h,fun F2 H2 ha _ hkv K2 hk=>?_⟩
      have e:=sub ha
      have hi2:H2[i]? = some (.var cs):=hkv i cs hi hf
      rw [e,hy]
      simp only [sLd,e,hz H2 hi2,hi2,cond_false]
      rw [hyy]; exact ⟨far2 ha,hk⟩
     ·exact h.elim
   ·exact h.elim
  ·exact h.elim
 | ixd d esz x i=>
  simp only [sem,sIxd] at h ⊢
  split at h
  ·rename_i n cs hy
   simp only [sIxa,hy] at h
   split at h
   ·rename_i h1 h2; cases h1
   ·rename_i n' cs' k z h1 hz
    cases h1
    refine ⟨_,h.2,fun F2 H2 ha _ hkv K2 hk=>?_⟩
    have e:=agree_opd (p:=x) ha (fun t ht=>by simp [slots,ht])
    have e2:=agree_opd (p:=i) ha (fun t ht=>by simp [slots,ht])
    rw [e,hy]
    simp only [sIxa,e,e2,hy,hz]
    exact ⟨h.1,hk⟩
   ·exact h.elim
  ·exact h.elim
 | fad d off x=>
  simp only [sem,sFad] at h ⊢
  split at h
  ·rename_i i k hy
   refine ⟨_,h,fun F2 H2 ha _ hkv K2 hk=>?_⟩
   rw [agree_opd (p:=x) ha (fun t ht=>ht),hy]; exact hk
  ·rename_i cs k hy
   refine ⟨_,h,fun F2 H2 ha _ hkv K2 hk=>?_⟩
   rw [agree_opd (p:=x) ha (fun t ht=>ht),hy]; exact hk
  ·exact h.elim
 | ixa d esz x i=>
  simp only [sem,sIxa] at h ⊢
  split at h
  ·rename_i r k z hy hz
   split at h
   ·rename_i e sz n cs ho
    refine ⟨_,h.2,fun F2 H2 ha hh hkv K2 hk=>?_⟩
    rw [hh rfl] at hk ⊢
    rw [agree_opd (p:=x) ha (fun t ht=>by simp [slots,ht]),agree_opd (p:=i) ha (fun t ht=>by simp [slots,ht]),hy,hz]
    simp only
    rw [ho]; exact ⟨h.1,hk⟩
   ·rename_i n cs ho
    refine ⟨_,h.2,fun F2 H2 ha hh hkv K2 hk=>?_⟩
    rw [hh rfl] at hk ⊢
    rw [agree_opd (p:=x) ha (fun t ht=>by simp [slots,ht]),agree_opd (p:=i) ha (fun t ht=>by simp [slots,ht]),hy,hz]
    simp only
    rw [ho]; exact ⟨h.1,hk⟩
   ·exact h.elim
  ·rename_i n cs k z hy hz
   refine ⟨_,h.2,fun F2 H2 ha hh hkv K2 hk=>?_⟩
   rw [agree_opd (p:=x) ha (fun t ht=>by simp [slots,ht]),agree_opd (p:=i) ha (fun t ht=>by simp [slots,ht]),hy,hz]
   exact ⟨h.1,hk⟩
  ·exact h.elim
 | len d str x=>
  simp only [sem,sLen] at h ⊢
  cases str with
  | true=>
   simp only [cond_true] at h ⊢
   split at h
   ·rename_i s hy
    refine ⟨_,h,fun F2 H2 ha _ hkv K2 hk=>?_⟩
    rw [agree_opd (p:=x) ha (fun t ht=>ht),hy]; exact hk
   ·exact h.elim
  | false=>
   simp only [cond_false] at h ⊢
   split at h
   ·rename_i n cs hy
    refine ⟨_,h,fun F2 H2 ha hh hkv K2 hk=>?_⟩
    rw [hh rfl] at hk ⊢
    rw [agree_opd (p:=x) ha (fun t ht=>ht),hy]; exact hk
   ·exact h.elim
 | bin d op x y=>
  simp only [sem,sBin] at h ⊢
  split at h
  ·rename_i u v hu hv
   split at h
   ·rename_i r hr
    refine ⟨_,h,fun F2 H2 ha _ hkv K2 hk=>?_⟩
    rw [agree_opd (p:=x) ha (fun t ht=>by simp [slots,ht]),agree_opd (p:=y) ha (fun t ht=>by simp [slots,ht]),hu,hv]
    simp only
    rw [hr]; exact hk
   ·exact h.elim
  ·exact h.elim
 | cat d x y=>
  simp only [sem,sCat] at h ⊢
  split at h
  ·rename_i u v hu hv
   refine ⟨_,h.2,fun F2 H2 ha _ hkv K2 hk=>?_⟩
   rw [agree_opd (p:=x) ha (fun t ht=>by simp [slots,ht]),agree_opd (p:=y) ha (fun t ht=>by simp [slots,ht]),hu,hv]
   exact ⟨h.1,hk⟩
  ·exact h.elim
 | eqb d neq x y=>
  simp only [sem,sEqb] at h ⊢
  split at h
  ·rename_i u v hu hv
   refine ⟨_,h,fun F2 H2 ha _ hkv K2 hk=>?_⟩
   rw [agree_opd (p:=x) ha (fun t ht=>by simp [slots,ht]),agree_opd (p:=y) ha (fun t ht=>by simp [slots,ht]),hu,hv]
   exact hk
  ·exact h.elim
 | eqc d neq x y=>
  simp only [sem,sEqc] at h ⊢
  split at h
  ·rename_i u1 u2 v1 v2 hu hv
   refine ⟨_,h,fun F2 H2 ha _ hkv K2 hk=>?_⟩
   rw [agree_opd (p:=x) ha (fun t ht=>by simp [slots,ht]),agree_opd (p:=y) ha (fun t ht=>by simp [slots,ht]),hu,hv]
   exact hk
  ·exact h.elim
 | un d op x=>
  simp only [sem,sUn] at h ⊢
  split at h
  ·rename_i u hu
   split at h
   ·rename_i r hr
    refine ⟨_,h,fun F2 H2 ha _ hkv K2 hk=>?_⟩
    rw [agree_opd (p:=x) ha (fun t ht=>ht),hu]
    simp only
    rw [hr]; exact hk
   ·exact h.elim
  ·exact h.elim
 | cvi d k x=>
  simp only [sem,sCvi] at h ⊢
  split at h
  ·rename_i k' n hu
   refine ⟨_,h,fun F2 H2 ha _ hkv K2 hk=>?_⟩
   rw [agree_opd (p:=x) ha (fun t ht=>ht),hu]; exact hk
  ·exact h.elim
 | cvb d x=>
  simp only [sem,sCvb] at h ⊢
  split at h
  ·rename_i n cs hy
   split at h
   ·rename_i l hl
    refine ⟨_,h.2,fun F2 H2 ha hh hkv K2 hk=>?_⟩
    rw [hh rfl] at hk ⊢
    rw [agree_opd (p:=x) ha (fun t ht=>ht),hy]
    simp only
    rw [hl]; exact ⟨h.1,hk⟩
   ·exact h.elim
  ·exact h.elim
 | cvs d x=>
  simp only [sem] at h ⊢
  split at h
  ·rename_i s hu
   refine ⟨_,h,fun F2 H2 ha _ hkv K2 hk=>?_⟩
   rw [agree_opd (p:=x) ha (fun t ht=>ht),hu]; exact hk
  ·exact h.elim
 | ixs d x i=>
  simp only [sem,sIxs] at h ⊢
  split at h
  ·rename_i s k z hu hv
   obtain ⟨h0,h⟩:=h
   split at h
   ·rename_i b hb
    refine ⟨_,h,fun F2 H2 ha _ hkv K2 hk=>?_⟩
    rw [agree_opd (p:=x) ha (fun t ht=>by simp [slots,ht]),agree_opd (p:=i) ha (fun t ht=>by simp [slots,ht]),hu,hv]
    refine ⟨h0,?_⟩
    rw [hb]; exact hk
   ·exact h.elim
  ·exact h.elim
 | slS d x lo hi=>
  simp only [sem,sSlS] at h ⊢
  split at h
  ·rename_i s hu
   split at h
   ·rename_i l r hl hr
    refine ⟨_,h.2,fun F2 H2 ha _ hkv K2 hk=>?_⟩
    rw [agree_opd (p:=x) ha (fun t ht=>by simp [slots,ht]),hu]
    simp only
    rw [agree_bopd (p:=lo) ha (fun t ht=>by simp [slots,ht]),agree_bopd (p:=hi) ha (fun t ht=>by simp [slots,ht]),hl,hr]
    exact ⟨h.1,hk⟩
   ·exact h.elim
  ·exact h.elim
 | slc d esz x lo hi=>
  simp only [sem,sSlc] at h ⊢
  split at h
  ·rename_i n cs hu
   split at h
   ·rename_i l r hl hr
    refine ⟨_,h.2,fun F2 H2 ha hh hkv K2 hk=>?_⟩
    rw [hh rfl] at hk ⊢
    rw [agree_opd (p:=x) ha (fun t ht=>by simp [slots,ht]),hu]
    simp only
    rw [agree_bopd (p:=lo) ha (fun t ht=>by simp [slots,ht]),agree_bopd (p:=hi) ha (fun t ht=>by simp [slots,ht]),hl,hr]
    exact ⟨h.1,hk⟩
   ·exact h.elim
  ·exact h.elim
 | ext d i x=>
  simp only [sem,sExt] at h ⊢
  split at h
  ·rename_i xs hu
   split at h
   ·rename_i y hy
    refine ⟨_,h,fun F2 H2 ha _ hkv K2 hk=>?_⟩
    rw [agree_opd (p:=x) ha (fun t ht=>ht),hu]
    simp only
    rw [hy]; exact hk
   ·exact h.elim
  ·exact h.elim
 | fld d off ag sz x=>
  simp only [sem,sFld] at h ⊢
  split at h
  ·rename_i cs hz
   cases ag with
   | true=>
    obtain ⟨h1,h2⟩:=h
    refine ⟨_,h2,fun F2 H2 ha hh hkv K2 hk=>?_⟩
    rw [agree_opd (p:=x) ha (fun t ht=>ht),hz]
    exact ⟨h1,hk⟩
   | false=>
    simp only [cond_false] at h
    split at h
    ·rename_i y hy
     refine ⟨y,h,fun F2 H2 ha hh hkv K2 hk=>?_⟩
     rw [agree_opd (p:=x) ha (fun t ht=>ht),hz]
     simp only [cond_false]
     rw [hy]; exact hk
    ·exact h.elim
  ·exact h.elim
 | nilc d x=>
  simp only [sem,sNil] at h ⊢
  split at h
  ·rename_i i k hy
   refine ⟨_,h,fun F2 H2 ha _ hkv K2 hk=>?_⟩
   rw [agree_opd (p:=x) ha (fun t ht=>ht),hy]; exact hk
  ·rename_i cs k hy
   refine ⟨_,h,fun F2 H2 ha _ hkv K2 hk=>?_⟩
   rw [agree_opd (p:=x) ha (fun t ht=>ht),hy]; exact hk
  ·exact h.elim
 | mm d mx xs=>
  simp only [sem,sMm] at h ⊢
  split at h
  ·rename_i k z r hr
   split at h
   ·rename_i y hy
    refine ⟨_,h,fun F2 H2 ha _ hkv K2 hk=>?_⟩
    rw [agree_evL ha xs (fun t ht=>ht),hr]
    simp only
    rw [hy]; exact hk
   ·exact h.elim
  ·exact h.elim
 | eqs d neq fs x y=>
  simp only [sem,sEqs] at h ⊢
  split at h
  ·rename_i u v hu hv
   split at h
   ·rename_i b hb
    refine ⟨_,h.2,fun F2 H2 ha _ hkv K2 hk=>?_⟩
    rw [agree_opd (p:=x) ha (fun t ht=>by simp [slots,ht]),agree_opd (p:=y) ha (fun t ht=>by simp [slots,ht]),hu,hv]
    simp only
    rw [hb]; exact ⟨h.1,hk⟩
   ·exact h.elim
  ·exact h.elim
 | bld d zs pl ps=>
  simp only [sem,sBld] at h ⊢
  split at h
  ·rename_i xs hx
   split at h
   ·rename_i cs hcs
    refine ⟨_,h,fun F2 H2 ha _ hkv K2 hk=>?_⟩
    rw [agree_parts ha ps (fun t ht=>ht),hx]
    simp only
    rw [hcs]; exact hk
   ·exact h.elim
  ·exact h.elim
 | mki d t x=>
  simp only [sem,sMki] at h ⊢
  split at h
  ·rename_i y hy
   refine ⟨_,h.2,fun F2 H2 ha _ hkv K2 hk=>?_⟩
   rw [agree_opd (p:=x) ha (fun t ht=>ht),hy]; exact ⟨h.1,hk⟩
  ·exact h.elim
 | tas d t ok z x=>
  simp only [sem,sTas] at h ⊢
  split at h
  ·rename_i t' y hy
   split at h
   ·rename_i htt
    refine ⟨_,h,fun F2 H2 ha _ hkv K2 hk=>?_⟩
    rw [agree_opd (p:=x) ha (fun t ht=>ht),hy]
    simp only
    rw [if_pos htt]; exact hk
   ·rename_i htt
    refine ⟨_,h.2,fun F2 H2 ha _ hkv K2 hk=>?_⟩
    rw [agree_opd (p:=x) ha (fun t ht=>ht),hy]
    simp only
    rw [if_neg htt]; exact ⟨h.1,hk⟩
  ·rename_i hy
   refine ⟨_,h.2,fun F2 H2 ha _ hkv K2 hk=>?_⟩
   rw [agree_opd (p:=x) ha (fun t ht=>ht),hy]; exact ⟨h.1,hk⟩
  ·exact h.elim
 | mkf d f ps=>
  simp only [sem,sMkf] at h ⊢
  split at h
  ·rename_i xs hx
   refine ⟨_,h,fun F2 H2 ha _ hkv K2 hk=>?_⟩
   rw [agree_evL ha ps (fun t ht=>ht),hx]; exact hk
  ·exact h.elim
 | lku d kd ok z m k=>
  simp only [sem,sLku] at h ⊢
  have sub:∀ {F2:Fr},Agree (slots (.lku d kd ok z m k)) F F2→opd F2 m=opd F m∧opd F2 k=opd F k:=fun ha=>⟨agree_opd (p:=m) ha (fun t ht=>by simp [slots,ht]),agree_opd (p:=k) ha (fun t ht=>by simp [slots,ht])⟩
  split at h
  ·rename_i i kv hm hk
   split at h
   ·rename_i kd' es ho
    refine ⟨_,h.2,fun F2 H2 ha hh hkv K2 hk2=>?_⟩
    obtain ⟨e1,e2⟩:=sub ha
    rw [hh rfl,e1,e2,hm,hk]
    simp only
    rw [ho]; exact ⟨h.1,by rw [hh rfl] at hk2; exact hk2⟩
   ·exact h.elim
  ·rename_i kv hm hk
   refine ⟨_,h.2,fun F2 H2 ha hh hkv K2 hk2=>?_⟩
   obtain ⟨e1,e2⟩:=sub ha
   rw [e1,e2,hm,hk]; exact ⟨h.1,hk2⟩
  ·exact h.elim
 | usd d x=>
  simp only [sem,sUsd] at h ⊢
  split at h
  ·rename_i i hi
   split at h
   ·rename_i e sz n cs ho
    refine ⟨_,h.2,fun F2 H2 ha hh hkv K2 hk=>?_⟩
    rw [hh rfl,agree_opd (p:=x) ha (fun t ht=>ht),hi]
    simp only
    rw [ho]; exact ⟨h.1,by rw [hh rfl] at hk; exact hk⟩
   ·exact h.elim
  ·rename_i n c hi
   refine ⟨_,h,fun F2 H2 ha hh hkv K2 hk=>?_⟩
   rw [agree_opd (p:=x) ha (fun t ht=>ht),hi]; exact hk
  ·exact h.elim
 | _=>cases hq
theorem frz1_var {H:List Ob} {x:AV} {id:Nat} {cs:List AV} (h:H[id]? = some (.var cs)):(frz1 H x).1[id]? = some (.var cs):=by
 cases x with
 | row r=>
  simp only [frz1]
  split
  ·rename_i e sz n ds hr
   have:r≠id:=fun e=>by subst e; rw [hr] at h; cases h
   simp only [List.getElem?_set_ne this]; exact h
  ·exact h
  ·exact h
 | v y=>
  cases y with
  | slice p n c=>cases p<;>exact h
  | _=>exact h
 | _=>exact h
theorem frzL_var:∀ (xs:List AV) {H:List Ob} {id:Nat} {cs:List AV},H[id]? = some (.var cs)→(frzL H xs).1[id]? = some (.var cs)
 | [],H,id,cs,h=>h
 | x :: r,H,id,cs,h=>frzL_var r (frz1_var h)
theorem app_var {H:List Ob} {i id:Nat} {o o':Ob} {cs:List AV} (ho:H[i]? = some o) (hne:∀ ds,o≠.var ds) (h:H[id]? = some (.var cs)):(H.set i .gone++[o'])[id]? = some (.var cs):=by
 have h1:i≠id:=fun e=>by subst e; rw [ho] at h; exact hne cs (Option.some.inj h)
 have h2:id < H.length:=(List.getElem?_eq_some_iff.1 h).1
 rw [List.getElem?_append_left (by simpa using h2),List.getElem?_set_ne h1]; exact h
theorem set_mp {H:List Ob} {i id:Nat} {o:Ob} {kd:TypeDesc} {es:List (Value × Value)} {cs:List AV} (ho:H[i]? = some (.mp kd es)) (h:H[id]? = some (.var cs)):(H.set i o)[id]? = some (.var cs):=by
 have h1:i≠id:=fun e=>by subst e; rw [ho] at h; cases h
 rw [List.getElem?_set_ne h1]; exact h
theorem app_var' {H:List Ob} {id:Nat} {o':Ob} {cs:List AV} (h:H[id]? = some (.var cs)):(H++[o'])[id]? = some (.var cs):=by
 rw [List.getElem?_append_left (List.getElem?_eq_some_iff.1 h).1]; exact h
theorem frz1_rvar {H:List Ob} {x:AV} {id:Nat} {cs:List AV} (h:(frz1 H x).1[id]? = some (.var cs)):H[id]? = some (.var cs):=by
 cases x with
 | row r=>
  simp only [frz1] at h
  split at h
  ·rename_i e sz n cs' ho
   by_cases hr:r=id
   ·subst hr
    rw [List.getElem?_set_self (List.getElem?_eq_some_iff.1 ho).1] at h; cases h
   ·rw [List.getElem?_set_ne hr] at h; exact h
  ·exact h
  ·exact h
 | v x=>
  cases x with
  | slice p n c=>cases p<;>exact h
  | _=>exact h
 | _=>exact h
theorem frzL_rvar:∀ (xs:List AV) {H:List Ob} {id:Nat} {cs:List AV},(frzL H xs).1[id]? = some (.var cs)→H[id]? = some (.var cs)
 | [],H,id,cs,h=>h
 | x :: r,H,id,cs,h=>frz1_rvar (frzL_rvar r h)
theorem chain_val {N:Nat} {o:AOp} (hq:chainK o=true) {F:Fr} {H:List Ob} {K:Fr→List Ob→Prop} (h:sem P G N o F H K) :
  ∃ x H',K (putF F (dstA o) x) H'∧(∀ (F2:Fr),Agree (slots o) F F2→∀ (K2:Fr→List Ob→Prop),K2 (putF F2 (dstA o) x) H'→sem P G N o F2 H K2) ∧
   (∀ (id:Nat) (cs:List AV),H[id]? = some (.var cs)→(∀ sz p y off,o=.st sz p y→opd F p≠some (.ptr id off))→H'[id]? = some (.var cs))∧∀ sz p y,o=.st sz p y→∃ j off,opd F p=some (.ptr j off)∧∀ (id:Nat) (cs:List AV),j≠id→H'[id]? = some (.var cs)→H[id]? = some (.var cs):=by
 cases o with
 | st sz p x=>
  simp only [sem,sSt] at h ⊢
  split at h
  ·rename_i i off y hp hx
   obtain ⟨h1,h2,h⟩:=h
   split at h
   ·rename_i cs ho
    split at h
    ·rename_i o' ho'
     refine ⟨.v (.bool true),_,h,fun F2 ha K2 hk=>?_,fun id cs' hid hne=>?_,fun sz' p' y' e=>⟨i,off,by cases e; exact hp,fun id cs hne hid=>by rw [List.getElem?_set_ne hne] at hid; exact hid⟩⟩
     rotate_left
     ·have hi:i≠id:=fun e=>hne sz p x off rfl (by rw [hp,e])
      rw [List.getElem?_set_ne hi]; first | exact hid | exact frzL_var _ hid
     rw [agree_opd (p:=p) ha (fun t ht=>by simp [slots,ht]),agree_opd (p:=x) ha (fun t ht=>by simp [slots,ht]),hp,hx]
     refine ⟨h1,h2,?_⟩
     rw [ho]
     simp only
     rw [ho']; exact hk
    ·exact h.elim
   ·rename_i T cs ho
    split at h
    ·rename_i o' ho'
     refine ⟨.v (.bool true),_,h,fun F2 ha K2 hk=>?_,fun id cs' hid hne=>?_,fun sz' p' y' e=>⟨i,off,by cases e; exact hp,fun id cs hne hid=>by rw [List.getElem?_set_ne hne] at hid; exact hid⟩⟩
     rotate_left
     ·have hi:i≠id:=fun e=>hne sz p x off rfl (by rw [hp,e])
      rw [List.getElem?_set_ne hi]; exact hid
     rw [agree_opd (p:=p) ha (fun t ht=>by simp [slots,ht]),agree_opd (p:=x) ha (fun t ht=>by simp [slots,ht]),hp,hx]
     refine ⟨h1,h2,?_⟩
     rw [ho]
     simp only
     rw [ho']; exact hk
    ·exact h.elim
   ·rename_i e s n cs ho
    split at h
    ·rename_i ob hob
     split at h
     ·rename_i o' ho'
      refine ⟨.v (.bool true),_,h,fun F2 ha K2 hk=>?_,fun id cs' hid hne=>?_,fun sz' p' y' e=>⟨i,off,by cases e; exact hp,fun id cs hne hid=>by rw [List.getElem?_set_ne hne] at hid; exact frzL_rvar _ hid⟩⟩
      rotate_left
      ·have hi:i≠id:=fun e=>hne sz p x off rfl (by rw [hp,e])
       rw [List.getElem?_set_ne hi]; exact frzL_var _ hid
      rw [agree_opd (p:=p) ha (fun t ht=>by simp [slots,ht]),agree_opd (p:=x) ha (fun t ht=>by simp [slots,ht]),hp,hx]
      refine ⟨h1,h2,?_⟩
      rw [ho]
      simp only
      rw [hob]
      simp only
      rw [ho']; exact hk
     ·exact h.elim
    ·exact h.elim
   ·exact h.elim
  ·exact h.elim
 | app d e sz eb s x=>
  simp only [sem,sApp] at h ⊢
  split at h
  ·exact h.elim
  ·rename_i m dd hx
   split at h
   ·rename_i i hs
    split at h
    ·rename_i e' sz' n cs ho
     obtain ⟨h1,h2,h3,h4,h5⟩:=h
     refine ⟨_,_,h5,fun F2 ha K2 hk=>?_,fun id cs' hid hne=>app_var ho (fun ds e=>by cases e) hid,fun _ _ _ e=>by cases e⟩
     rw [agree_opd (p:=s) ha (fun t ht=>by simp [slots,ht]),agree_opd (p:=x) ha (fun t ht=>by simp [slots,ht]),hx]
     simp only
     rw [hs]
     simp only
     rw [ho]; exact ⟨h1,h2,h3,h4,hk⟩
    ·exact h.elim
   ·rename_i n' c' hs
    obtain ⟨h1,h2,h3,h4,h5⟩:=h
    refine ⟨_,_,h5,fun F2 ha K2 hk=>?_,fun id cs' hid hne=>app_var' hid,fun _ _ _ e=>by cases e⟩
    rw [agree_opd (p:=s) ha (fun t ht=>by simp [slots,ht]),agree_opd (p:=x) ha (fun t ht=>by simp [slots,ht]),hx]
    simp only
    rw [hs]; exact ⟨h1,h2,h3,h4,hk⟩
   ·exact h.elim
 | aps d e s x=>
  simp only [sem,sAps] at h ⊢
  split at h
  ·rename_i b hx
   split at h
   ·rename_i i hs
    split at h
    ·rename_i e' sz' n cs ho
     obtain ⟨h1,h2,h5⟩:=h
     refine ⟨_,_,h5,fun F2 ha K2 hk=>?_,fun id cs' hid hne=>app_var ho (fun ds e=>by cases e) hid,fun _ _ _ e=>by cases e⟩
     rw [agree_opd (p:=s) ha (fun t ht=>by simp [slots,ht]),agree_opd (p:=x) ha (fun t ht=>by simp [slots,ht]),hx]
     simp only
     rw [hs]
     simp only
     rw [ho]; exact ⟨h1,h2,hk⟩
    ·exact h.elim
   ·rename_i n' c' hs
    obtain ⟨h1,h5⟩:=h
    refine ⟨_,_,h5,fun F2 ha K2 hk=>?_,fun id cs' hid hne=>app_var' hid,fun _ _ _ e=>by cases e⟩
    rw [agree_opd (p:=s) ha (fun t ht=>by simp [slots,ht]),agree_opd (p:=x) ha (fun t ht=>by simp [slots,ht]),hx]
    simp only
    rw [hs]; exact ⟨h1,hk⟩
   ·exact h.elim
  ·exact h.elim
 | mkm d kd=>
  simp only [sem,sMkm] at h ⊢
  exact ⟨_,_,h,fun F2 ha K2 hk=>hk,fun id cs' hid hne=>app_var' hid,fun _ _ _ e=>by cases e⟩
 | mup kd m k x=>
  simp only [sem,sMup] at h ⊢
  split at h
  ·rename_i i kv xv hm hk hx
   split at h
   ·rename_i kd' es ho
    refine ⟨.v (.bool true),_,h.2,fun F2 ha K2 hk2=>?_,fun id cs' hid hne=>set_mp ho hid,fun _ _ _ e=>by cases e⟩
    rw [agree_opd (p:=m) ha (fun t ht=>by simp [slots,ht]),agree_opd (p:=k) ha (fun t ht=>by simp [slots,ht]),agree_opd (p:=x) ha (fun t ht=>by simp [slots,ht]),hm,hk,hx]
    simp only
    rw [ho]; exact ⟨h.1,hk2⟩
   ·exact h.elim
  ·exact h.elim
 | men d kd z m k=>
  simp only [sem,sMen] at h ⊢
  split at h
  ·rename_i i kv hm hk
   split at h
   ·rename_i kd' es ho
    refine ⟨_,_,h.2,fun F2 ha K2 hk2=>?_,fun id cs' hid hne=>set_mp ho hid,fun _ _ _ e=>by cases e⟩
    rw [agree_opd (p:=m) ha (fun t ht=>by simp [slots,ht]),agree_opd (p:=k) ha (fun t ht=>by simp [slots,ht]),hm,hk]
    simp only
    rw [ho]; exact ⟨h.1,hk2⟩
   ·exact h.elim
  ·exact h.elim
 | mes m s x=>
  simp only [sem,sMes] at h ⊢
  split at h
  ·rename_i i n xv hm hk hx
   split at h
   ·rename_i kd' es ho
    refine ⟨.v (.bool true),_,h.2,fun F2 ha K2 hk2=>?_,fun id cs' hid hne=>set_mp ho hid,fun _ _ _ e=>by cases e⟩
    rw [agree_opd (p:=m) ha (fun t ht=>by simp [slots,ht]),agree_opd (p:=s) ha (fun t ht=>by simp [slots,ht]),agree_opd (p:=x) ha (fun t ht=>by simp [slots,ht]),hm,hk,hx]
    simp only
    rw [ho]; exact ⟨h.1,hk2⟩
   ·exact h.elim
  ·exact h.elim
 | ust d e x n=>
  simp only [sem,sUst] at h ⊢
  split at h
  ·rename_i i z hi hz
   split at h
   ·rename_i e' sz m cs ho
    split at h
    ·rename_i l hl
     refine ⟨_,_,h.2,fun F2 ha K2 hk2=>?_,fun id cs' hid hne=>?_,fun _ _ _ e=>by cases e⟩
     ·rw [agree_opd (p:=x) ha (fun t ht=>by simp [slots,ht]),agree_opd (p:=n) ha (fun t ht=>by simp [slots,ht]),hi,hz]
      simp only
      rw [ho]
      simp only
      rw [hl]; exact ⟨h.1,hk2⟩
     ·have h1:i≠id:=fun e=>by subst e; rw [ho] at hid; cases hid
      rw [List.getElem?_set_ne h1]; exact hid
    ·exact h.elim
   ·exact h.elim
  ·rename_i z hi hz
   refine ⟨_,H,h.2,fun F2 ha K2 hk2=>?_,fun id cs' hid hne=>hid,fun _ _ _ e=>by cases e⟩
   rw [agree_opd (p:=x) ha (fun t ht=>by simp [slots,ht]),agree_opd (p:=n) ha (fun t ht=>by simp [slots,ht]),hi,hz]; exact ⟨h.1,hk2⟩
  ·exact h.elim
 | _=>cases hq
end
end Ab
end Go.Proofs.YtgddkgbidhhheaaGreatDoor
namespace Go.Proofs.YtgddkgbidhhheaaGreatDoor
open Go.RowKit
namespace Ab
section
variable {P:Program} {G:Gs}
def dz (H:List Ob) (x:AV):AV:=
 match x with
 | .row i=>match H[i]? with
  | some (.fro n cs)=>.sl n cs
  | _=>x
 | .v (.slice none _ _)=>.sl 0 []
 | _=>x
def notOwn (H:List Ob) (x:AV):Bool:=
 match x with
 | .row i=>match H[i]? with
  | some (.own _ _ _ _)=>false
  | _=>true
 | .ptr _ _=>false
 | _=>true
def dsem (P:Program) (G:Gs) (N base j:Nat) (o:AOp) (F:Fr) (H:List Ob) (K:Fr→List Ob→Prop):Prop:=
 match o with
 | .var d _=>K (upd F d (.ptr (base + j) 0)) H
 | .bsl d _ sz n zs ps=>match evP F ps with
  | some xs=>match fillA (fun i=>some (i * sz,sz)) zs xs with
   | some cs=>(cs.map (dz H)).all deep1=true∧K (upd F d (.sl n (cs.map (dz H)))) H
   | none=>False
  | none=>False
 | .call d f args=>∃ xs x,evA F args=some xs∧AP P G.inv f (xs.map (snapE H)) (fun y=>y=x)∧(xs.map (snapE H)).all deepE=true∧(xs.all (notOwn H) || flatV x)=true∧K (putF F d x) H
 | o=>(quietK o || chainK o)=true∧sem P G N o F H K
def isVar:AOp→Bool
 | .var _ _=>true
 | _=>false
def awpD (P:Program) (G:Gs) (N base:Nat):Nat→List AOper→(Fr→List Ob→Prop)→Fr→List Ob→Prop
 | _,[],K,F,H=>K F H
 | j,o :: r,K,F,H=>guardP o.guard F (dsem P G N base j o.op F H (awpD P G N base (bif isVar o.op then j + 1 else j) r K)) (isVar o.op=false∧awpD P G N base (bif isVar o.op then j + 1 else j) r K (skipF F o.dst) H)
structure Perf (P:Program) (G:Gs) (N base j:Nat) (o:AOp) (F:Fr) (H:List Ob) (x:AV) (H':List Ob):Prop where
 does:∀ (F2:Fr) (H2:List Ob),Agree (slots o) F F2→(hreadK o=true∨chainK o=true→H2=H)→KeepV o F H H2→∀ (K2:Fr→List Ob→Prop),K2 (putF F2 (dstA o) x) (bif chainK o then H' else H2)→dsem P G N base j o F2 H2 K2
 same:chainK o=false→H'=H
 vars:∀ (id:Nat) (cs:List AV),H[id]? = some (.var cs)→(∀ sz p y off,o=.st sz p y→opd F p≠some (.ptr id off))→H'[id]? = some (.var cs)
 back:∀ sz p y,o=.st sz p y→∃ j off,opd F p=some (.ptr j off)∧∀ (id:Nat) (cs:List AV),j≠id→H'[id]? = some (.var cs)→H[id]? = some (.var cs)
theorem agree_evA {F F2:Fr} {args:List Opd} (h:Agree (argsS args) F F2):evA F2 args=evA F args:=agree_args h args (fun t ht=>ht)
theorem perf_of {N base j:Nat} {o:AOp} {F:Fr} {H:List Ob} {K:Fr→List Ob→Prop} (h:dsem P G N base j o F H K):∃ x H',Perf P G N base j o F H x H'∧K (putF F (dstA o) x) H':=by
 have gen:(quietK o || chainK o)=true→sem P G N o F H K→(∀ F2 H2 K2,(quietK o || chainK o)=true∧sem P G N o F2 H2 K2→dsem P G N base j o F2 H2 K2)→∃ x H',Perf P G N base j o F H x H'∧K (putF F (dstA o) x) H':=by
  intro hk hs hd
  cases hq:quietK o with
  | true=>
   have hc:chainK o=false:=by cases o<;>first | rfl | (cases hq)
   obtain ⟨x,h1,h2⟩:=quiet_val hq hs
   refine ⟨x,H,⟨fun F2 H2 ha hh hkv K2 hK=>hd _ _ _ ⟨by rw [hq]; rfl,h2 F2 H2 ha (fun hr=>hh (.inl hr)) hkv K2 (by rw [hc] at hK; exact hK)⟩,fun _=>rfl,fun id cs hid _=>hid,fun sz p y e=>by subst e; cases hq⟩,h1⟩
  | false=>
   have hc:chainK o=true:=by rw [hq] at hk; simpa using hk
   obtain ⟨x,H',h1,h2,h3,h4⟩:=chain_val hc hs
   refine ⟨x,H',⟨fun F2 H2 ha hh _ K2 hK=>?_,fun hn=>(by rw [hc] at hn; cases hn),h3,h4⟩,h1⟩
   have:=hh (.inr hc)
   subst this
   exact hd _ _ _ ⟨by rw [hc]; simp,h2 F2 ha K2 (by rw [hc] at hK; exact hK)⟩
 cases o with
 | var d zs=>exact ⟨_,H,⟨fun F2 H2 ha hh _ K2 hK=>hK,fun _=>rfl,fun id cs hid _=>hid,fun sz p y e=>by cases e⟩,h⟩
 | bsl d e sz n zs ps=>
  simp only [dsem] at h
  split at h
  ·rename_i xs hxs
   split at h
   ·rename_i cs hcs
    refine ⟨_,H,⟨fun F2 H2 ha hh _ K2 hK=>?_,fun _=>rfl,fun id cs hid _=>hid,fun sz p y e=>by cases e⟩,h.2⟩
    have:=hh (.inl rfl)
    subst this
    simp only [dsem]
    rw [agree_parts ha ps (fun t ht=>ht),hxs]
    simp only
    rw [hcs]
    exact ⟨h.1,hK⟩
   ·exact h.elim
  ·exact h.elim
 | call d f args=>
  obtain ⟨xs,x,h1,h2,h3,h4,h5⟩:=h
  refine ⟨x,H,⟨fun F2 H2 ha hh _ K2 hK=>?_,fun _=>rfl,fun id cs hid _=>hid,fun sz p y e=>by cases e⟩,h5⟩
  have:=hh (.inl rfl)
  subst this
  exact ⟨xs,x,by rw [agree_evA ha]; exact h1,h2,h3,h4,hK⟩
 | box d x=>exact gen h.1 h.2 (fun _ _ _ h=>h)
 | mks d e eb z l=>exact gen h.1 h.2 (fun _ _ _ h=>h)
 | mov d x=>exact gen h.1 h.2 (fun _ _ _ h=>h)
 | pick d q x y=>exact gen h.1 h.2 (fun _ _ _ h=>h)
 | ld d ag sz x=>exact gen h.1 h.2 (fun _ _ _ h=>h)
 | fad d off x=>exact gen h.1 h.2 (fun _ _ _ h=>h)
 | ixa d esz x i=>exact gen h.1 h.2 (fun _ _ _ h=>h)
 | len d str x=>exact gen h.1 h.2 (fun _ _ _ h=>h)
 | bin d op x y=>exact gen h.1 h.2 (fun _ _ _ h=>h)
 | cat d x y=>exact gen h.1 h.2 (fun _ _ _ h=>h)
 | eqb d neq x y=>exact gen h.1 h.2 (fun _ _ _ h=>h)
 | eqc d neq x y=>exact gen h.1 h.2 (fun _ _ _ h=>h)
 | un d op x=>exact gen h.1 h.2 (fun _ _ _ h=>h)
 | cvi d k x=>exact gen h.1 h.2 (fun _ _ _ h=>h)
 | cvb d x=>exact gen h.1 h.2 (fun _ _ _ h=>h)
 | cvs d x=>exact gen h.1 h.2 (fun _ _ _ h=>h)
 | ixs d x i=>exact gen h.1 h.2 (fun _ _ _ h=>h)
 | slS d x lo hi=>exact gen h.1 h.2 (fun _ _ _ h=>h)
 | slc d esz x lo hi=>exact gen h.1 h.2 (fun _ _ _ h=>h)
 | ext d i x=>exact gen h.1 h.2 (fun _ _ _ h=>h)
 | fld d off ag sz x=>exact gen h.1 h.2 (fun _ _ _ h=>h)
 | st sz p x=>exact gen h.1 h.2 (fun _ _ _ h=>h)
 | bld d zs pl ps=>exact gen h.1 h.2 (fun _ _ _ h=>h)
 | app d e sz eb s x=>exact gen h.1 h.2 (fun _ _ _ h=>h)
 | aps d e s x=>exact gen h.1 h.2 (fun _ _ _ h=>h)
 | nilc d x=>exact gen h.1 h.2 (fun _ _ _ h=>h)
 | mm d mx xs=>exact gen h.1 h.2 (fun _ _ _ h=>h)
 | cvm d e st x=>exact gen h.1 h.2 (fun _ _ _ h=>h)
 | ldd d ag sz x ps=>exact gen h.1 h.2 (fun _ _ _ h=>h)
 | ixd d esz x i=>exact gen h.1 h.2 (fun _ _ _ h=>h)
 | eqs d neq fs x y=>exact gen h.1 h.2 (fun _ _ _ h=>h)
 | mki d t x=>exact gen h.1 h.2 (fun _ _ _ h=>h)
 | tas d t ok z x=>exact gen h.1 h.2 (fun _ _ _ h=>h)
 | mkf d f ps=>exact gen h.1 h.2 (fun _ _ _ h=>h)
 | mkm d kd=>exact gen h.1 h.2 (fun _ _ _ h=>h)
 | mup kd m k x=>exact gen h.1 h.2 (fun _ _ _ h=>h)
 | lku d kd ok z m k=>exact gen h.1 h.2 (fun _ _ _ h=>h)
 | men d kd z m k=>exact gen h.1 h.2 (fun _ _ _ h=>h)
 | mes m s x=>exact gen h.1 h.2 (fun _ _ _ h=>h)
 | slo d esz x lo hi=>exact gen h.1 h.2 (fun _ _ _ h=>h)
 | callv d x args=>exact gen h.1 h.2 (fun _ _ _ h=>h)
 | pan x=>exact gen h.1 h.2 (fun _ _ _ h=>h)
 | boxt d t x=>exact gen h.1 h.2 (fun _ _ _ h=>h)
 | usd d x=>exact gen h.1 h.2 (fun _ _ _ h=>h)
 | ust d e x n=>exact gen h.1 h.2 (fun _ _ _ h=>h)
def gOn (o:AOper) (F:Fr):Prop:=
 match o.guard with
 | none=>True
 | some (s,b)=>F s=some (.v (.bool b))
def gOff (o:AOper) (F:Fr):Prop:=
 match o.guard with
 | none=>False
 | some (s,b)=>F s=some (.v (.bool (!b)))∨∃ xs,F s=some (.tup xs)
def Stp (P:Program) (G:Gs) (N base:Nat) (oj:AOper × Nat) (S S':Fr × List Ob):Prop:=
 (gOn oj.1 S.1∧∃ x H',Perf P G N base oj.2 oj.1.op S.1 S.2 x H'∧S'=(putF S.1 oj.1.dst x,H'))∨(gOff oj.1 S.1∧isVar oj.1.op=false∧S'=(skipF S.1 oj.1.dst,S.2))
def Run (P:Program) (G:Gs) (N base:Nat):List (AOper × Nat)→Fr × List Ob→Fr × List Ob→Prop
 | [],S,S'=>S=S'
 | o :: r,S,S'=>∃ S1,Stp P G N base o S S1∧Run P G N base r S1 S'
def tags:Nat→List AOper→List (AOper × Nat)
 | _,[]=>[]
 | j,o :: r=>(o,j) :: tags (bif isVar o.op then j + 1 else j) r
theorem run_of {N base:Nat}:∀ (al:List AOper) (j:Nat) (K:Fr→List Ob→Prop) (F:Fr) (H:List Ob),(∀ o ∈ al,o.dst=dstA o.op)→awpD P G N base j al K F H→∃ S',Run P G N base (tags j al) (F,H) S'∧K S'.1 S'.2
 | [],j,K,F,H,_,h=>⟨(F,H),rfl,h⟩
 | o :: r,j,K,F,H,hd,h=>by
  simp only [awpD,guardP] at h
  have hod:o.dst=dstA o.op:=hd o (by simp)
  have hr:∀ o' ∈ r,o'.dst=dstA o'.op:=fun o' ho'=>hd o' (by simp [ho'])
  have perform:gOn o F→dsem P G N base j o.op F H (awpD P G N base (bif isVar o.op then j + 1 else j) r K)→∃ S',Run P G N base (tags j (o :: r)) (F,H) S'∧K S'.1 S'.2:=fun hg hs=>by
   obtain ⟨x,H',hp,hk⟩:=perf_of hs
   obtain ⟨S',h1,h2⟩:=run_of r _ K _ _ hr hk
   exact ⟨S',⟨_,.inl ⟨hg,x,H',hp,rfl⟩,by rw [hod]; exact h1⟩,h2⟩
  have skip:gOff o F→(isVar o.op=false∧awpD P G N base (bif isVar o.op then j + 1 else j) r K (skipF F o.dst) H)→∃ S',Run P G N base (tags j (o :: r)) (F,H) S'∧K S'.1 S'.2:=fun hg hs=>by
   obtain ⟨S',h1,h2⟩:=run_of r _ K _ _ hr hs.2
   exact ⟨S',⟨_,.inr ⟨hg,hs.1,rfl⟩,h1⟩,h2⟩
  split at h
  ·rename_i hg
   exact perform (by simp only [gOn]; rw [hg]; trivial) h
  ·rename_i s b hg
   split at h
   ·rename_i x hx
    cases hxb:x == b with
    | true=>
     rw [hxb] at h
     refine perform ?_ h
     simp only [gOn]; rw [hg]; simp only; rw [hx,beq_iff_eq.1 hxb]
    | false=>
     rw [hxb] at h
     refine skip ?_ h
     simp only [gOff]; rw [hg]; simp only; rw [hx]
     have:=beq_eq_false_iff_ne.1 hxb
     left
     cases x<;>cases b<;>first | rfl | (exact absurd rfl this)
   ·rename_i xs hx
    refine skip ?_ h
    simp only [gOff]; rw [hg]; exact .inr ⟨xs,hx⟩
   ·exact h.elim
def gslots (o:AOper):List Nat:=
 match o.guard with
 | some (s,_)=>[s]
 | none=>[]
def looks (o:AOper):List Nat:=slots o.op++gslots o
def offS (d:Option Nat) (l:List Nat):Bool:=
 match d with
 | some t=>!l.contains t
 | none=>true
def inPs (ps:List Opd):Opd→Bool
 | .t n=>ps.any fun q=>match q with | .t m=>m == n | _=>false
 | .k _=>ps.any fun q=>match q with | .k (.v _)=>true | _=>false
def lddOk (c r:AOp):Bool:=
 match r with
 | .ldd _ _ _ _ ps=>match c with
  | .st _ p _=>inPs ps p
  | .app ..=>inPs ps (.k (.v (.bool false)))
  | .aps ..=>inPs ps (.k (.v (.bool false)))
  | .mkm ..=>inPs ps (.k (.v (.bool false)))
  | .mup ..=>inPs ps (.k (.v (.bool false)))
  | .men ..=>inPs ps (.k (.v (.bool false)))
  | .mes ..=>inPs ps (.k (.v (.bool false)))
  | .ust ..=>inPs ps (.k (.v (.bool false)))
  | _=>true
 | _=>true
theorem far_k {F:Fr} {ps:List Opd} {x:AV} {i:Nat} (h:inPs ps (.k x)=true):farP F ps i=false:=by
 unfold inPs at h
 obtain ⟨q,hq,h2⟩:=List.any_eq_true.1 h
 cases hf:farP F ps i with
 | false=>rfl
 | true=>
  have:=List.all_eq_true.1 hf q hq
  cases q with
  | t n=>cases h2
  | k y=>cases y<;>first | (cases h2; done) | (simp [opd] at this; done)
theorem far_t {F:Fr} {ps:List Opd} {n i:Nat} (h:inPs ps (.t n)=true) (hf:farP F ps i=true):∃ j off,opd F (.t n)=some (.ptr j off)∧j≠i:=by
 unfold inPs at h
 obtain ⟨q,hq,h2⟩:=List.any_eq_true.1 h
 have:=List.all_eq_true.1 hf q hq
 cases q with
 | k y=>cases h2
 | t m=>
  simp only [beq_iff_eq] at h2
  subst h2
  split at this
  ·rename_i j off ho
   exact ⟨j,off,ho,by simpa using this⟩
  ·cases this
def commB (o o':AOper):Bool:=
 offS o.dst (looks o') && offS o'.dst (looks o) && (match o.dst,o'.dst with | some a,some b=>a != b | _,_=>true) &&
 !(chainK o.op && (chainK o'.op || hreadK o'.op)) && !(chainK o'.op && hreadK o.op) && lddOk o.op o'.op && lddOk o'.op o.op
theorem putF_agree {F:Fr} {d:Option Nat} {x:AV} {l:List Nat} (h:offS d l=true):Agree l F (putF F d x):=fun t ht=>by
 cases d with
 | none=>rfl
 | some a=>
  have:t≠a:=fun e=>by subst e; simp [offS,ht] at h
  simp only [putF,upd]; rw [if_neg this]
theorem skipF_agree {F:Fr} {d:Option Nat} {l:List Nat} (h:offS d l=true):Agree l F (skipF F d):=fun t ht=>by
 cases d with
 | none=>rfl
 | some a=>
  have:t≠a:=fun e=>by subst e; simp [offS,ht] at h
  simp only [skipF,upd]; rw [if_neg this]
theorem agree_sub {l l':List Nat} {F F2:Fr} (h:Agree l F F2) (hs:∀ t ∈ l',t ∈ l):Agree l' F F2:=fun t ht=>h t (hs t ht)
theorem agree_symm {l:List Nat} {F F2:Fr} (h:Agree l F F2):Agree l F2 F:=fun t ht=>(h t ht).symm
theorem agree_trans {l:List Nat} {F F2 F3:Fr} (h:Agree l F F2) (h':Agree l F2 F3):Agree l F F3:=fun t ht=>(h' t ht).trans (h t ht)
theorem gOn_agree {o:AOper} {F F2:Fr} (h:Agree (gslots o) F F2) (hg:gOn o F):gOn o F2:=by
 unfold gOn at *
 cases hgd:o.guard with
 | none=>trivial
 | some sb=>
  obtain ⟨s,b⟩:=sb
  rw [hgd] at hg
  simp only at hg ⊢
  rw [h s (by simp [gslots,hgd])]; exact hg
theorem gOff_agree {o:AOper} {F F2:Fr} (h:Agree (gslots o) F F2) (hg:gOff o F):gOff o F2:=by
 unfold gOff at *
 cases hgd:o.guard with
 | none=>rw [hgd] at hg; exact hg.elim
 | some sb=>
  obtain ⟨s,b⟩:=sb
  rw [hgd] at hg
  simp only at hg ⊢
  rw [h s (by simp [gslots,hgd])]; exact hg
def after (F:Fr) (d:Option Nat):Option AV→Fr
 | some x=>putF F d x
 | none=>skipF F d
theorem after_agree {F:Fr} {d:Option Nat} {x:Option AV} {l:List Nat} (h:offS d l=true):Agree l F (after F d x):=by
 cases x with
 | none=>exact skipF_agree h
 | some x=>exact putF_agree h
theorem after_comm {F:Fr} {d d':Option Nat} (x y:Option AV) (h:(match d,d' with | some a,some b=>a != b | _,_=>true)=true):after (after F d x) d' y=after (after F d' y) d x:=by
 cases d with
 | none=>cases x<;>rfl
 | some a=>
  cases d' with
  | none=>cases y<;>rfl
  | some b=>
   have hne:a≠b:=by simpa using h
   funext t
   cases x<;>cases y<;>simp only [after,putF,skipF,upd,updN]<;>(repeat' split)<;>first | rfl | (subst_vars; exact absurd rfl hne)
theorem KeepV.trans {o:AOp} {F F2:Fr} {H H2 H3:List Ob} (h:KeepV o F H H2) (ha:Agree (slots o) F F2) (h':KeepV o F2 H2 H3):KeepV o F H H3:=by
 cases o with
 | ldd d ag sz x ps=>exact fun id cs hid hf=>h' id cs (h id cs hid hf) (by rw [farP_agree ha (fun t ht=>by simp [slots,ht])]; exact hf)
 | _=>trivial
theorem Perf.move {N base j:Nat} {o:AOp} {F F2:Fr} {H H2:List Ob} {x:AV} {H':List Ob} (h:Perf P G N base j o F H x H') (ha:Agree (slots o) F F2) (hh:hreadK o=true∨chainK o=true→H2=H) (hkv:KeepV o F H H2)
  (hv:∀ sz p y,o=.st sz p y→∀ t ∈ opdS p,t ∈ slots o):Perf P G N base j o F2 H2 x (bif chainK o then H' else H2):=by
 refine ⟨fun F3 H3 ha3 hh3 hkv3 K2 hK=>h.does F3 H3 (agree_trans ha ha3) (fun hx=>(hh3 hx).trans (hh hx)) (hkv.trans ha hkv3) K2 ?_,fun hc=>by rw [hc]; rfl,fun id cs hid hne=>?_,fun sz p y e=>?_⟩
 ·cases hc:chainK o with
  | true=>rw [hc] at hK; exact hK
  | false=>rw [hc] at hK; exact hK
 ·cases hc:chainK o with
  | false=>exact hid
  | true=>
   have:=hh (.inr hc)
   subst this
   exact h.vars id cs hid (fun sz p y off e=>by rw [← agree_opd ha (hv sz p y e)]; exact hne sz p y off e)
 ·obtain ⟨j',off,h1,h2⟩:=h.back sz p y e
  have hc:chainK o=true:=by subst e; rfl
  have:=hh (.inr hc)
  subst this
  rw [hc]
  exact ⟨j',off,by rw [agree_opd ha (hv sz p y e)]; exact h1,h2⟩
theorem st_slots {o:AOp}:∀ sz p y,o=.st sz p y→∀ t ∈ opdS p,t ∈ slots o:=fun sz p y e t ht=>by subst e; simp [slots,ht]
theorem swap {N base:Nat} {o o':AOper × Nat} (hc:commB o.1 o'.1=true) {S S1 S2:Fr × List Ob} (h1:Stp P G N base o S S1) (h2:Stp P G N base o' S1 S2):∃ S3,Stp P G N base o' S S3∧Stp P G N base o S3 S2:=by
 simp only [commB,Bool.and_eq_true,Bool.not_eq_true',Bool.and_eq_false_iff,Bool.or_eq_false_iff] at hc
 obtain ⟨⟨⟨⟨⟨⟨c1,c2⟩,c3⟩,c4⟩,c5⟩,c6⟩,c7⟩:=hc
 have off1:offS o.1.dst (slots o'.1.op)=true∧offS o.1.dst (gslots o'.1)=true:=by
  cases hd:o.1.dst with
  | none=>exact ⟨rfl,rfl⟩
  | some t=>rw [hd] at c1; simp only [offS,looks,Bool.not_eq_true',List.contains_eq_mem,decide_eq_false_iff_not,List.mem_append,not_or] at c1 ⊢; exact c1
 have off2:offS o'.1.dst (slots o.1.op)=true∧offS o'.1.dst (gslots o.1)=true:=by
  cases hd:o'.1.dst with
  | none=>exact ⟨rfl,rfl⟩
  | some t=>rw [hd] at c2; simp only [offS,looks,Bool.not_eq_true',List.contains_eq_mem,decide_eq_false_iff_not,List.mem_append,not_or] at c2 ⊢; exact c2
 have form:∀ {p:AOper × Nat} {A B:Fr × List Ob},Stp P G N base p A B→∃ (r:Option AV) (H':List Ob),B=(after A.1 p.1.dst r,H')∧(match r with | some x=>gOn p.1 A.1∧Perf P G N base p.2 p.1.op A.1 A.2 x H' | none=>gOff p.1 A.1∧isVar p.1.op=false∧H'=A.2):=by
  intro p A B h
  rcases h with ⟨hg,x,H',hp,rfl⟩ | ⟨hg,hv,rfl⟩
  ·exact ⟨some x,H',rfl,hg,hp⟩
  ·exact ⟨none,A.2,rfl,hg,hv,rfl⟩
 have back:∀ {p:AOper × Nat} {A:Fr × List Ob} {r:Option AV} {H':List Ob},(match r with | some x=>gOn p.1 A.1∧Perf P G N base p.2 p.1.op A.1 A.2 x H' | none=>gOff p.1 A.1∧isVar p.1.op=false∧H'=A.2)→Stp P G N base p A (after A.1 p.1.dst r,H'):=by
  intro p A r H' h
  cases r with
  | some x=>exact .inl ⟨h.1,x,H',h.2,rfl⟩
  | none=>obtain ⟨h1,h2,rfl⟩:=h; exact .inr ⟨h1,h2,rfl⟩
 obtain ⟨r,H1,rfl,k1⟩:=form h1
 obtain ⟨r',H2,rfl,k2⟩:=form h2
 simp only at k2
 have e1:chainK o.1.op=false→H1=S.2:=fun hn=>by
  cases r with
  | some x=>exact k1.2.same hn
  | none=>exact k1.2.2
 have kv1:KeepV o'.1.op (after S.1 o.1.dst r) H1 S.2:=by
  cases hc:chainK o.1.op with
  | false=>rw [e1 hc]; exact KeepV.same _ _ _
  | true=>
   cases r with
   | none=>have:H1=S.2:=k1.2.2; rw [this]; exact KeepV.same _ _ _
   | some x=>
    cases ho':o'.1.op with
    | ldd d ag sz y ps=>
     rw [ho'] at c6 off1
     intro id cs hid hf
     have hff:farP S.1 ps id=true:=by rw [← farP_agree (after_agree (x:=some x) off1.1) (fun t ht=>by simp [slots,ht])]; exact hf
     cases ho:o.1.op with
     | st sz' p y'=>
      rw [ho] at c6 k1
      cases p with
      | k z=>
       have h7:=far_k (F:=S.1) (i:=id) (ps:=ps) (x:=z) c6
       rw [h7] at hff; cases hff
      | t n=>
       obtain ⟨j,off,h1,h2⟩:=far_t c6 hff
       obtain ⟨j',off',h3,h4⟩:=k1.2.back _ _ _ rfl
       rw [h1] at h3; cases h3
       exact h4 id cs h2 hid
     | app=>
      rw [ho] at c6
      have h7:=far_k (F:=S.1) (i:=id) (ps:=ps) (x:=.v (.bool false)) c6
      rw [h7] at hff; cases hff
     | aps=>
      rw [ho] at c6
      have h7:=far_k (F:=S.1) (i:=id) (ps:=ps) (x:=.v (.bool false)) c6
      rw [h7] at hff; cases hff
     | mkm=>
      rw [ho] at c6
      have h7:=far_k (F:=S.1) (i:=id) (ps:=ps) (x:=.v (.bool false)) c6
      rw [h7] at hff; cases hff
     | mup=>
      rw [ho] at c6
      have h7:=far_k (F:=S.1) (i:=id) (ps:=ps) (x:=.v (.bool false)) c6
      rw [h7] at hff; cases hff
     | men=>
      rw [ho] at c6
      have h7:=far_k (F:=S.1) (i:=id) (ps:=ps) (x:=.v (.bool false)) c6
      rw [h7] at hff; cases hff
     | mes=>
      rw [ho] at c6
      have h7:=far_k (F:=S.1) (i:=id) (ps:=ps) (x:=.v (.bool false)) c6
      rw [h7] at hff; cases hff
     | ust=>
      rw [ho] at c6
      have h7:=far_k (F:=S.1) (i:=id) (ps:=ps) (x:=.v (.bool false)) c6
      rw [h7] at hff; cases hff
     | _=>rw [ho] at hc; cases hc
    | _=>trivial
 have kv2:KeepV o.1.op S.1 S.2 (bif chainK o'.1.op then H2 else S.2):=by
  cases hc:chainK o'.1.op with
  | false=>exact KeepV.same _ _ _
  | true=>
   cases ho:o.1.op with
   | ldd d ag sz y ps=>
    have hS:H1=S.2:=e1 (by rw [ho]; rfl)
    intro id cs hid hf
    rw [cond_true]
    rw [ho] at c7
    cases r' with
    | none=>have:H2=H1:=k2.2.2; rw [this,hS]; exact hid
    | some x=>
     refine k2.2.vars id cs (by rw [hS]; exact hid) (fun sz' p y' off e hp=>?_)
     rw [e] at c7
     cases p with
     | k z=>
      have h7:=far_k (F:=S.1) (i:=id) (ps:=ps) (x:=z) c7
      rw [h7] at hf; cases hf
     | t n=>
      obtain ⟨j,off',h1,h2⟩:=far_t c7 hf
      have h3:=agree_opd (p:=.t n) (after_agree (F:=S.1) (x:=r) off1.1) (fun t ht=>by rw [e]; simp only [slots,List.mem_append]; exact .inl ht)
      rw [h3,h1] at hp
      cases hp
      exact h2 rfl
   | _=>trivial
 have s1:Stp P G N base o' S (after S.1 o'.1.dst r',bif chainK o'.1.op then H2 else S.2):=by
  apply back
  cases r' with
  | some y=>
   refine ⟨gOn_agree (agree_symm (after_agree off1.2)) k2.1,?_⟩
   refine Perf.move (H2:=S.2) k2.2 (agree_symm (after_agree off1.1)) (fun hx=>?_) kv1 st_slots
   refine (e1 ?_).symm
   rcases hx with hx | hx
   ·rcases c4 with c4 | c4
    ·exact c4
    ·rw [c4.2] at hx; cases hx
   ·rcases c4 with c4 | c4
    ·exact c4
    ·rw [c4.1] at hx; cases hx
  | none=>
   refine ⟨gOff_agree (agree_symm (after_agree off1.2)) k2.1,k2.2.1,?_⟩
   cases hcc:chainK o'.1.op with
   | false=>rfl
   | true=>
    have:H2=H1:=k2.2.2
    rw [this]
    refine e1 ?_
    rcases c4 with c4 | c4
    ·exact c4
    ·rw [c4.1] at hcc; cases hcc
 refine ⟨_,s1,?_⟩
 have s2:Stp P G N base o (after S.1 o'.1.dst r',bif chainK o'.1.op then H2 else S.2) (after (after S.1 o'.1.dst r') o.1.dst r,bif chainK o.1.op then H1 else (bif chainK o'.1.op then H2 else S.2)):=by
  apply back
  cases r with
  | some x=>
   refine ⟨gOn_agree (after_agree off2.2) k1.1,?_⟩
   refine Perf.move k1.2 (after_agree off2.1) (fun hx=>?_) kv2 st_slots
   have hn:chainK o'.1.op=false:=by
    rcases hx with hx | hx
    ·rcases c5 with c5 | c5
     ·exact c5
     ·rw [c5] at hx; cases hx
    ·rcases c4 with c4 | c4
     ·rw [c4] at hx; cases hx
     ·exact c4.1
   rw [hn]; rfl
  | none=>
   refine ⟨gOff_agree (after_agree off2.2) k1.1,k1.2.1,?_⟩
   cases hcc:chainK o.1.op with
   | false=>rfl
   | true=>
    have hn:chainK o'.1.op=false:=by
     rcases c4 with c4 | c4
     ·rw [c4] at hcc; cases hcc
     ·exact c4.1
    rw [hn]
    exact k1.2.2
 have hfin:(after (after S.1 o'.1.dst r') o.1.dst r,bif chainK o.1.op then H1 else (bif chainK o'.1.op then H2 else S.2))=(after (after S.1 o.1.dst r) o'.1.dst r',H2):=by
  rw [after_comm r r' c3]
  congr 1
  cases hcc:chainK o.1.op with
  | true=>
   have hn:chainK o'.1.op=false:=by
    rcases c4 with c4 | c4
    ·rw [c4] at hcc; cases hcc
    ·exact c4.1
   simp only [cond_true]
   cases r' with
   | some y=>exact (k2.2.same hn).symm
   | none=>exact k2.2.2.symm
  | false=>
   simp only [cond_false]
   cases hcc':chainK o'.1.op with
   | true=>rfl
   | false=>
    simp only [cond_false]
    have h2':H2=H1:=by
     cases r' with
     | some y=>exact k2.2.same hcc'
     | none=>exact k2.2.2
    rw [h2',e1 hcc]
 rw [hfin] at s2
 exact s2
attribute [irreducible] commB
theorem run_first {N base:Nat} {o:AOper × Nat}:∀ (l1 l2:List (AOper × Nat)) (S S':Fr × List Ob),(∀ a ∈ l1,commB a.1 o.1=true)→Run P G N base (l1++o :: l2) S S'→∃ S1,Stp P G N base o S S1∧Run P G N base (l1++l2) S1 S'
 | [],l2,S,S',_,h=>h
 | a :: l1,l2,S,S',hc,h=>by
  obtain ⟨Sa,ha,hr⟩:=h
  obtain ⟨Sb,hb,hr'⟩:=run_first l1 l2 Sa S' (fun x hx=>hc x (by simp [hx])) hr
  obtain ⟨S3,g1,g2⟩:=swap (hc a (by simp)) ha hb
  exact ⟨S3,g1,Sb,g2,hr'⟩
end
end Ab
end Go.Proofs.YtgddkgbidhhheaaGreatDoor
namespace Go.Proofs.YtgddkgbidhhheaaGreatDoor
open Go.RowKit
namespace Ab
section
variable {P:Program} {G:Gs}
theorem flatE_rd {w w2:World} {M M2:Nat→Prop} {x:AV} {u:Value} (hf:flatE x=true) (h:RD w M x u):RD w2 M2 x u:=by
 cases x with
 | v y=>cases h with | v _ h=>exact .v _ h
 | agg cs=>
  cases h with
  | agg _ us hl h1 hr=>
   refine .agg cs us hl h1 (fun j x u hx hu=>?_)
   have hv:=List.all_eq_true.1 hf x (List.mem_of_getElem? hx)
   cases x with
   | v y=>cases hr j _ u hx hu with | v _ h=>exact .v _ h
   | _=>cases hv
 | _=>cases hf
theorem flatV_rd {w w2:World} {M M2:Nat→Prop} {x:AV} {u:Value} (hf:flatV x=true) (h:RD w M x u):RD w2 M2 x u:=by
 cases x with
 | tup xs=>
  cases h with
  | tup _ us hl hr=>exact .tup xs us hl (fun j x u hx hu=>flatE_rd (List.all_eq_true.1 hf x (List.mem_of_getElem? hx)) (hr j x u hx hu))
 | _=>exact flatE_rd hf h
def lent (c:Cx) (H:List Ob) (xs:List AV) (b:Nat):Prop:=∃ i,((AV.row i ∈ xs∧∃ e sz n cs,H[i]? = some (.own e sz n cs))∨∃ off,AV.ptr i off ∈ xs)∧c.β i=b
theorem snap_ok {w0 : World} {c : Cx} {H : List Ob} (hS : St w0 c H) {xs : List AV} {x : AV} {u : Value} (hx : RV c x u) (hm : x ∈ xs) (hd : deepE (snapE H x) = true) : RD c.w (fun b => c.M b ∧ ¬ lent c H xs b) (snapE H x) u := by
  have weak : ∀ {x : AV} {u : Value}, RD c.w c.M x u → RD c.w (fun b => c.M b ∧ ¬ lent c H xs b) x u := fun h => h.mono (Nat.le_refl _) (fun b _ hn => ⟨rfl, fun h => hn h.1⟩)
  cases x with
  | row i =>
    obtain ⟨rfl, hi, _⟩ := hx.inv_row
    simp only [snapE] at hd
    split at hd
    · rename_i e sz n cs ho
      rw [show snapE H (.row i) = .sl n cs by simp only [snapE, ho]]
      obtain ⟨_, us, h1, h2, h3, h4⟩ := hS.ob i _ ho
      obtain ⟨cap, hv, hc, hl, hb, hcell⟩ := own_cells h1 h2
      rw [hv]
      exact .sl (c.β i) 0 n cap cs us h3.len (fun h => h.2 ⟨i, .inl ⟨hm, ⟨e, sz, n, cs, ho⟩⟩, rfl⟩) hb hcell h3.one (fun j x u h5 h6 => weak (h3.at' j x u h5 h6)) hc
    · rename_i n cs ho
      rw [show snapE H (.row i) = .sl n cs by simp only [snapE, ho]]
      exact weak (hS.ob i _ ho).2
    · cases hd
  | v y =>
    obtain ⟨rfl, hf⟩ := hx.inv_v
    cases u with
    | slice p n cap =>
      cases p with
      | none =>
        simp only [flat, Bool.and_eq_true, beq_iff_eq] at hf
        obtain ⟨rfl, rfl⟩ := hf
        exact .sl0 _ _
      | some _ => simp [flat] at hf
    | _ => exact weak (hx.rdE rfl)
  | ptr i off =>
    obtain ⟨rfl, hi⟩ := hx.inv_ptr
    simp only [snapE] at hd ⊢
    split at hd
    · rename_i cs ho
      cases hq : cs.all deep1
      · rw [hq] at hd; cases hd
      · rw [cond_true]
        rcases hS.ob i _ ho with ⟨_, us, T, h1, h2, h3⟩ | ⟨hn, _⟩
        · have h4 := h2.rdl (fun x hx => List.all_eq_true.1 hq x hx)
          have := RD.ep (w := c.w) (M := fun b => c.M b ∧ ¬ lent c H xs b) (c.β i) 0 off cs us h4.len (fun h => h.2 ⟨i, .inr ⟨off, hm⟩, rfl⟩) (by
            obtain ⟨hlt, _⟩ := Array.getElem?_eq_some_iff.1 h1; exact hlt) (fun j u hu => by
            rw [Nat.zero_add]; simp [World.cell?, h1, hu]) h4.one (fun j x u h5 h6 => weak (h4.at' j x u h5 h6))
          rw [Nat.zero_add] at this
          exact this
        · exact absurd hi hn
    · cases hd
  | _ => exact weak (hx.rdE hd)
theorem SCall.lend {N:Nat} {d:Option Nat} (hdN:∀ t,d=some t→t < N) {f:FuncId} {args:List Opd} {F:Fr} {H:List Ob} {K:Fr→List Ob→Prop} {xs:List AV} (hx:evA F args=some xs) {post:AV→Prop}
  (hA:AP P G.inv f (xs.map (snapE H)) post) (hd:(xs.map (snapE H)).all deepE=true) (hfl:∀ x,post x→(xs.all (notOwn H) || flatV x)=true) (hK:∀ x,post x→K (putF F d x) H):SCall P G N d f args F H K:=by
 intro w0 ds c a vs hG hS hF hN hds ⟨hvl,hvs⟩
 obtain ⟨g1,g2⟩:=evA_at args xs hx
 refine (hA w0 c.w (fun b=>c.M b∧¬ lent c H xs b) vs hG hS.below (fun b hb=>hS.mlt b hb.1) ⟨by rw [List.length_map,← g1]; exact hvl,fun j y hy=>?_⟩).mono ?_
 ·rw [List.getElem?_map,Option.map_eq_some_iff] at hy
  obtain ⟨x,hxj,rfl⟩:=hy
  obtain ⟨p,hp,hpx⟩:=g2 j x hxj
  obtain ⟨u,hu,hr⟩:=hvs j p x hp hpx
  exact ⟨u,hu,snap_ok hS hr (List.mem_of_getElem? hxj) (List.all_eq_true.1 hd _ (List.mem_map.2 ⟨x,List.mem_of_getElem? hxj,rfl⟩))⟩
 ·rintro e w' ⟨u,x,rfl,hbl,hrd,hp⟩
  refine .inl ⟨u,rfl,?_⟩
  obtain ⟨s2,t2⟩:=below_st hS hbl
  have hrd':RD w' c.M x u:=by
   have:=hfl x hp
   rw [Bool.or_eq_true] at this
   rcases this with h | h
   ·refine hrd.mono (Nat.le_refl _) (fun b _ hn=>⟨rfl,fun hm=>hn ⟨hm,?_⟩⟩)
    rintro ⟨i,⟨hi,⟨e,sz,n,cs,ho⟩⟩ | ⟨off,hi⟩,_⟩
    ·have:=List.all_eq_true.1 h _ hi
     simp only [notOwn,ho] at this
     cases this
    ·cases List.all_eq_true.1 h _ hi
   ·exact flatV_rd h hrd
  exact ⟨⟨c.at w',_,_,rfl,t2,s2,(hF.le t2.le).putF (fun t h=>by rw [hN]; exact hdN t h) (.deep hrd'),by rw [size_put,hN],by rw [defers_put,hds],hK x hp⟩⟩
set_option maxHeartbeats 4000000 in
theorem inv_var {N:Nat} {o:Oper} {d:Nat} {zs:List AV} (h:compOp P N o=some (.var d zs)):∃ t i z,o.op=.alloc t∧o.dst=some d∧d < N∧P.info? t=some i∧i.zero=some z∧z.cells.toList.all flat=true∧zs=z.cells.toList.map .v:=by
 unfold compOp at h
 split at h
 case h_14 t ho=>
  unfold cVar at h
  split at h
  ·rename_i d' i hd hi
   split at h
   ·rename_i z hz
    split at h
    ·rename_i hc
     cases h
     exact ⟨t,i,z,ho,hd,hc.1,hi,hz,hc.2,rfl⟩
    ·cases h
   ·cases h
  ·cases h
 all_goals exfalso
 all_goals first | (cases h; done) | skip
 all_goals simp only [cMove,cPick,cLoad,cFad,cIxa,cBin,cUn,cCnv,cIxs,cSlc,cExt,cFld,cBox,cSt,cBld,cBsl,cMks,cNil,compCall,cLen,cApp,cMm,cCall,cMki,cTas,cMkf,cMkm,cMup,cLku,cMen,cMes,cPan,cCallv,cUsd,cUst] at h
 all_goals (repeat' split at h)
 all_goals first | (cases h; done)
set_option maxHeartbeats 4000000 in
theorem inv_bsl {N:Nat} {o:Oper} {d e sz n:Nat} {zs:List AV} {qs:List (Nat × Opd)} (h:compOp P N o=some (.bsl d e sz n zs qs)):∃ t i z ps,o.op=.buildSlice t n ps∧o.dst=some d∧d < N∧P.underlying t=some (.slice e)∧P.info? e=some i∧i.zero=some z∧i.size=sz ∧
  (zeroRow z.cells (n * i.size)).all flat=true∧n * i.size≤16777216∧zs=(zeroRow z.cells (n * i.size)).map .v∧cParts ps.toList=some qs:=by
 unfold compOp at h
 split at h
 case h_18 t n' ps ho=>
  unfold cBsl at h
  split at h
  ·rename_i d' e' qs' hd hu hq
   split at h
   ·rename_i i hi
    split at h
    ·rename_i z hz
     split at h
     ·rename_i hc
      cases h
      exact ⟨t,i,z,ps,ho,hd,hc.1,hu,hi,hz,rfl,hc.2.1,hc.2.2.1,rfl,hq⟩
     ·cases h
    ·cases h
   ·cases h
  ·cases h
 all_goals exfalso
 all_goals first | (cases h; done) | skip
 all_goals simp only [cMove,cPick,cLoad,cFad,cIxa,cBin,cUn,cCnv,cIxs,cSlc,cExt,cFld,cVar,cBox,cSt,cBld,cMks,cNil,compCall,cLen,cApp,cMm,cCall,cMki,cTas,cMkf,cMkm,cMup,cLku,cMen,cMes,cPan,cCallv,cUsd,cUst] at h
 all_goals (repeat' split at h)
 all_goals first | (cases h; done)
structure Mid (w0:World) (N:Nat) (ds:List Deferred) (c0:Cx) (H0:List Ob) (base:Nat) (c:Cx) (F:Fr) (H:List Ob) (a:Act):Prop where
 step:Step c0 H0 c H
 st:St w0 c H
 rf:RF c F a
 size:a.tmps.size=N
 defers:a.defers=ds
 base:base=c0.k
def Pend (c:Cx) (H:List Ob) (base:Nat) (l:List (AOper × Nat)):Prop:=∀ o j,(o,j) ∈ l→∀ d zs,o.op=.var d zs→H[base + j]? = some (.var zs)∧¬ c.born (base + j)
theorem dz_rl {w0:World} {c:Cx} {H:List Ob} (hS:St w0 c H) {cs:List AV} {us:List Value} (h:RL c cs us) (hd:(cs.map (dz H)).all deep1=true):RDL c.w c.M (cs.map (dz H)) us:=by
 refine ⟨by simp [h.len],h.one,fun j y u hy hu=>?_⟩
 rw [List.getElem?_map,Option.map_eq_some_iff] at hy
 obtain ⟨x,hx,rfl⟩:=hy
 have hr:=h.at' j x u hx hu
 have hd1:deep1 (dz H x)=true:=List.all_eq_true.1 hd _ (List.mem_map.2 ⟨x,List.mem_of_getElem? hx,rfl⟩)
 cases x with
 | row i=>
  obtain ⟨rfl,hi,_⟩:=hr.inv_row
  simp only [dz] at hd1
  split at hd1
  ·rename_i n cs' ho
   rw [show dz H (.row i)=.sl n cs' by simp only [dz,ho]]
   exact (hS.ob i _ ho).2
  ·cases hd1
 | v y=>
  obtain ⟨rfl,hf⟩:=hr.inv_v
  cases u with
  | slice p n cap=>
   cases p with
   | none=>
    simp only [flat,Bool.and_eq_true,beq_iff_eq] at hf
    obtain ⟨rfl,rfl⟩:=hf
    exact .sl0 _ _
   | some _=>simp [flat] at hf
  | _=>exact hr.rd1 rfl
 | _=>exact hr.rd1 hd1
theorem born_st {w0:World} {c0 c:Cx} {H0 H:List Ob} (hst:Step c0 H0 c H) (hS:St w0 c H) {id:Nat} {zs:List Value} (hid:H[id]? = some (.var (zs.map .v))) (hnb:¬ c.born id) (hk:c0.k≤id) (hf:zs.all flat=true) (T:TypeId) :
  let c':Cx:={ w:=c.w.alloc (.cells zs.toArray T),M:=fun b=>c.M b∨b=c.w.heap.size,k:=c.k,born:=fun i=>c.born i∨i=id,β:=fun i=>if i=id then c.w.heap.size else c.β i,sv:=c.sv }
  St w0 c' H∧Step c0 H0 c' H∧c.le c':=by
 intro c'
 have hβ:∀ i,c.born i→c'.β i=c.β i:=fun i hi=>if_neg (fun (e:i=id)=>hnb (e ▸ hi))
 have hsame:∀ b,b < c.w.heap.size→c'.w.heap[b]? = c.w.heap[b]?:=fun b hb=>Below.heap_alloc _ _ _ hb
 have hsz:c.w.heap.size < c'.w.heap.size:=by show _ < (c.w.alloc _).heap.size; simp
 have hle:c.le c':=⟨fun i h=>.inl h,hβ,fun _ _=>rfl,Nat.le_of_lt hsz,fun b hb hm=>⟨hsame b hb,fun h=>h.elim hm (fun e=>by omega)⟩⟩
 have hwr:∀ b,Wr c' H b→Wr c H b∨b=c.w.heap.size:=fun b ⟨i,o,ho,hl,hbn,he⟩=>by
  rcases hbn with hbn | rfl
  ·rw [hβ i hbn] at he; exact .inl ⟨i,o,ho,hl,hbn,he⟩
  ·right
   have:c'.β i=c.w.heap.size:=if_pos rfl
   rw [← he,this]
 have hstep:Step c0 H0 c' H:=
  ⟨hst.le.trans hle,hst.os,hst.tape,hst.output,fun b hb hn=>(hsame b (Nat.lt_of_lt_of_le hb hst.le.size)).trans (hst.same b hb hn),
   fun b hb hm=>hm.elim (hst.mm b hb) (fun e=>by have:=hst.le.size; omega),fun b hb hn hm=>.inl (hst.mw b hb hn hm),
   fun b hb=>(hwr b hb).elim (hst.wr b) (fun e=>.inr (by have:=hst.le.size; omega)),hst.kk,fun i hi hb=>hb.elim (hst.nb i hi) (fun e=>by omega)⟩
 have hidk:id < c.k:=by rw [hS.k]; exact (List.getElem?_eq_some_iff.1 hid).1
 refine ⟨⟨hS.k,fun i hi=>hi.elim (hS.bl i) (fun e=>by show i < c.k; rw [e]; exact hidk),fun i o ho=>?_,fun i j oi oj hi hj li lj ni nj he=>?_,fun b hb=>?_,fun b hb=>?_,?_⟩,hstep,hle⟩
 ·by_cases hi:i=id
  ·subst hi
   rw [hid] at ho; cases ho
   refine .inl ⟨.inr rfl,zs,T,?_,RL.ofFlat hf,?_⟩
   ·have:c'.β i=c.w.heap.size:=if_pos rfl
    rw [this]; exact heap_alloc_new c.w _
   ·have:c'.β i=c.w.heap.size:=if_pos rfl
    rw [this]; exact .inr rfl
  ·refine (hS.ob i o ho).le hle (fun h=>h.elim (fun h=>h) (fun e=>absurd e hi)) (fun hl hbn=>?_)
   have hw:Wr c H (c.β i):=⟨i,o,ho,hl,hbn,rfl⟩
   exact ⟨hsame _ (hS.blt hw),.inl (hS.live_M hw)⟩
 ·by_cases e1:i=id<;>by_cases e2:j=id
  ·rw [e1,e2]
  ·have hj':c.born j:=nj.elim (fun h=>h) (fun e=>absurd e e2)
   have:c'.β i=c.w.heap.size:=if_pos e1
   rw [this,hβ j hj'] at he
   have:=hS.blt (b:=c.β j) ⟨j,oj,hj,lj,hj',rfl⟩
   omega
  ·have hi':c.born i:=ni.elim (fun h=>h) (fun e=>absurd e e1)
   have:c'.β j=c.w.heap.size:=if_pos e2
   rw [this,hβ i hi'] at he
   have:=hS.blt (b:=c.β i) ⟨i,oi,hi,li,hi',rfl⟩
   omega
  ·have hi':c.born i:=ni.elim (fun h=>h) (fun e=>absurd e e1)
   have hj':c.born j:=nj.elim (fun h=>h) (fun e=>absurd e e2)
   rw [hβ i hi',hβ j hj'] at he
   exact hS.inj i j oi oj hi hj li lj hi' hj' he
 ·rcases hwr b hb with h | h
  ·exact hS.base b h
  ·have:=hS.below.size; omega
 ·rcases hb with h | h
  ·exact Nat.lt_trans (hS.mlt b h) hsz
  ·rw [h]; exact hsz
 ·exact hS.below.alloc hS.below.size _
set_option maxHeartbeats 1000000 in
theorem stp_ok {N:Nat} {ops:Array Oper} {w0:World} (hG:G.inv w0) {ds:List Deferred} {c0:Cx} {H0:List Ob} {base:Nat} {o:Oper} {ao:AOper} {dp:Dp} (hc:compOper P N dp ops o=some ao) (hda:ao.dst=dstA ao.op) {j:Nat} {rest:List (AOper × Nat)}
  (hdisj:isVar ao.op=true→∀ o' j',(o',j') ∈ rest→isVar o'.op=true→j'≠j) {c:Cx} {F F':Fr} {H H':List Ob} {a:Act} {Q:Exit→Act→World→Prop} (hm:Mid w0 N ds c0 H0 base c F H a) (hp:Pend c H base ((ao,j) :: rest))
  (hs:Stp P G N base (ao,j) (F,H) (F',H')) (hQp:∀ ch a' w',PanAt G w0 ds c0 H0 ch a' w'→Q (.panic ch) a' w') {K:Act→World→Prop} (hK:∀ c' a',Mid w0 N ds c0 H0 base c' F' H' a'→Pend c' H' base rest→K a' c'.w) :
  if Region.wanted o (yielded ops a.tmps) then o.wp P a c.w K Q else K (a.put o.dst undef) c.w:=by
 obtain ⟨g,op0,hg,hop0,hdst,rfl⟩:=compOper_inv hc
 dsimp only at hda
 obtain ⟨op,hopd⟩:∃ op,deepO dp op0=op:=⟨_,rfl⟩
 have hds0:∀ {F:Fr} {H:List Ob} {K:Fr→List Ob→Prop},sem P G N op F H K→sem P G N op0 F H K:=fun h=>deepen_sem (dp:=dp) (by rw [hopd]; exact h)
 rw [hopd] at hda hdisj hp hs
 have hst:=hm.st
 have hkk:c0.k≤c.k:=hm.step.kk
 rcases hs with ⟨hon,x,H1,hperf,he⟩ | ⟨hoff,hnv,he⟩
 ·cases he
  have hw:Region.wanted o (yielded ops a.tmps)=true:=by
   have:guardP g F True False:=by
    unfold guardP
    simp only [gOn] at hon
    cases g with
    | none=>trivial
    | some sb=>
     obtain ⟨s,b⟩:=sb
     simp only at hon ⊢
     rw [hon]
     simp
   rcases guard_ok hm.rf hg this with ⟨h,_⟩ | ⟨_,h⟩
   ·exact h
   ·exact h.elim
  rw [if_pos hw]
  have gen:isVar op=false→(∀ K2:Fr→List Ob→Prop,K2 (putF F o.dst x) H'→sem P G N op F H K2)→o.wp P a c.w K Q:=fun hv hsem=>by
   refine Oper.wp_mono (fun a' w' hfin=>?_) (compOp_ok hop0 w0 ds c a F H (fun F1 H1=>F1=putF F o.dst x∧H1=H') Q hG hst hm.rf hm.size hm.defers (fun ch a' w' h=>hQp _ _ _ (h.trans hm.step)) (hds0 (hsem _ ⟨rfl,rfl⟩)))
   obtain ⟨c',F1,H1,rfl,q2,q3,q4,q5,q6,rfl,rfl⟩:=hfin.ex
   refine hK c' a' ⟨hm.step.trans q2,q3,q4,q5,q6,hm.base⟩ (fun o' j' hoj d zs hv'=>?_)
   obtain ⟨p1,p2⟩:=hp o' j' (by simp [hoj]) d zs hv'
   have hlt:base + j' < c.k:=by rw [hst.k]; exact (List.getElem?_eq_some_iff.1 p1).1
   refine ⟨hperf.vars _ zs p1 (fun sz p y off e hpp=>?_),fun hb=>p2 (q2.nb _ hlt hb)⟩
   subst e
   have hav:∃ oo,cOpd oo=some p∧opd F p=some (.ptr (base + j') off):=by
    have hop:compOp P N o=some (.st sz p y):=by
     rw [← deepen_is hopd (fun _ _ _ _ _=>AOp.noConfusion) (fun _ _ _ _=>AOp.noConfusion) (fun _ _ _ _ _=>AOp.noConfusion)]; exact hop0
    unfold compOp at hop
    split at hop
    case h_16 t x' y' ho=>
     unfold cSt at hop
     split at hop
     ·rename_i p' q' i' hd' h1 h2 h3
      cases hop
      exact ⟨x',h1,hpp⟩
     ·cases hop
    all_goals exfalso
    all_goals first | (cases hop; done) | skip
    all_goals simp only [cMove,cPick,cLoad,cFad,cIxa,cBin,cUn,cCnv,cIxs,cSlc,cExt,cFld,cVar,cBox,cBld,cBsl,cMks,cNil,compCall,cLen,cApp,cMm,cCall,cMki,cTas,cMkf,cMkm,cMup,cLku,cMen,cMes,cPan,cCallv,cUsd,cUst] at hop
    all_goals (repeat' split at hop)
    all_goals first | (cases hop; done)
   obtain ⟨oo,ho1,ho2⟩:=hav
   exact p2 (cOpd_ok hm.rf ho1 ho2).inv_ptr.2
  have ag:Agree (slots op) F F:=fun _ _=>rfl
  cases hvar:isVar op with
  | true=>
   cases op with
   | var d zs=>
    have hop:compOp P N o=some (.var d zs):=by
     rw [← deepen_is hopd (fun _ _ _ _ _=>AOp.noConfusion) (fun _ _ _ _=>AOp.noConfusion) (fun _ _ _ _ _=>AOp.noConfusion)]; exact hop0
    obtain ⟨t,i,z,v1,v2,v3,v4,v5,v6,rfl⟩:=inv_var hop
    have hH':H'=H:=hperf.same rfl
    subst hH'
    obtain ⟨p1,p2⟩:=hp _ j List.mem_cons_self d _ rfl
    have hx:putF F o.dst x=upd F d (.ptr (base + j) 0):=by
     have:=hperf.does F H' ag (fun _=>rfl) (KeepV.same _ _ _) (fun F1 _=>F1=putF F o.dst x) (show putF F (dstA _) x=putF F o.dst x by rw [hda])
     exact this.symm
    obtain ⟨s1,s2,s3⟩:=born_st hm.step hst p1 p2 (by rw [hm.base]; omega) v6 t
    refine wp_val (u:=.pointer (some ⟨c.w.heap.size,0,none⟩)) (w':=c.w.alloc (.cells z.cells.toList.toArray t)) (by simp [execOp,v1,Instr.alloc,zeroValue,typeInfo,v4,v5,newVar,newRow]) ?_
    rw [hx] at hK
    refine hK _ _ ⟨s2,s1,?_,by rw [size_put,hm.size],by rw [defers_put,hm.defers],hm.base⟩ (fun o' j' hoj d' zs' hv'=>?_)
    ·rw [v2]
     refine (hm.rf.le s3).put (by rw [hm.size]; exact v3) ?_
     have:=RV.ptr (c:={ w:=c.w.alloc (.cells z.cells.toList.toArray t),M:=fun b=>c.M b∨b=c.w.heap.size,k:=c.k,born:=fun i=>c.born i∨i=base + j,β:=fun i=>if i=base + j then c.w.heap.size else c.β i,sv:=c.sv }) (base + j) 0 (.inr rfl)
     simp only [if_true] at this
     exact this
    ·obtain ⟨p3,p4⟩:=hp o' j' (by simp [hoj]) d' zs' hv'
     refine ⟨p3,fun hb=>hb.elim p4 (fun e=>?_)⟩
     have:=hdisj rfl o' j' hoj (by rw [hv']; rfl)
     omega
   | _=>cases hvar
  | false=>
   cases op with
   | var d zs=>cases hvar
   | bsl d e sz n zs ps=>
    have hop:compOp P N o=some (.bsl d e sz n zs ps):=by
     rw [← deepen_is hopd (fun _ _ _ _ _=>AOp.noConfusion) (fun _ _ _ _=>AOp.noConfusion) (fun _ _ _ _ _=>AOp.noConfusion)]; exact hop0
    obtain ⟨t,i,z,ps',b1,b2,b3,b4,b5,b6,rfl,b8,b9,rfl,b11⟩:=inv_bsl hop
    have hH':H'=H:=hperf.same rfl
    subst hH'
    have hd:=hperf.does F H' ag (fun _=>rfl) (KeepV.same _ _ _) (fun F1 _=>F1=putF F o.dst x) (show putF F (dstA _) x=putF F o.dst x by rw [hda])
    simp only [dsem] at hd
    split at hd
    ·rename_i xs hxs
     split at hd
     ·rename_i cs hcs
      obtain ⟨hdp,hx⟩:=hd
      obtain ⟨us',h1,h2⟩:=fill_ok hm.rf (fun j=>some (j * i.size,i.size)) ps'.toList ps b11 xs hxs _ _ (RL.ofFlat b8) cs hcs
      have hdl:=dz_rl hst h2 hdp
      have hlen:us'.length=n * i.size:=by rw [h2.len,fillA_len hcs]; simp [zeroRow]
      refine wp_val (run_bsl b1 b4 b5 b6 b9 h1 c.w) ?_
      obtain ⟨s1,s2⟩:=grow_st hst (w1:=c.w.alloc (.cells us'.toArray e)) (by simp) rfl rfl rfl (fun b hb=>Below.heap_alloc _ _ _ hb)
      rw [← hx] at hK
      refine hK (c.at (c.w.alloc (.cells us'.toArray e))) _ ⟨hm.step.trans s2,s1,?_,by rw [size_put,hm.size],by rw [defers_put,hm.defers],hm.base⟩ (fun o' j' hoj d' zs' hv'=>hp o' j' (by simp [hoj]) d' zs' hv')
      rw [b2]
      refine (hm.rf.le s2.le).put (by rw [hm.size]; exact b3) (.deep ?_)
      have hdl':=hdl.le s2.le
      refine .sl c.w.heap.size 0 n n _ us' hdl'.len (fun hM=>Nat.lt_irrefl _ (hst.mlt _ hM)) (by show _ < (c.w.alloc _).heap.size; simp) (fun q u hu=>?_) hdl'.one hdl'.at' (Nat.le_refl _)
      rw [Nat.zero_add]
      show (c.w.alloc (.cells us'.toArray e)).cell? _=_
      rw [cell_of_row _ _ _ us'.toArray e (0,0) (heap_alloc_new c.w _)]; simpa using hu
     ·exact hd.elim
    ·exact hd.elim
   | call d f args=>
    have hH':H'=H:=hperf.same rfl
    subst hH'
    have hd:=hperf.does F H' ag (fun _=>rfl) (KeepV.same _ _ _) (fun F1 _=>F1=putF F o.dst x) (show putF F (dstA _) x=putF F o.dst x by rw [hda])
    obtain ⟨xs,y,e1,e2,e3,e4,e5⟩:=hd
    have hdN:∀ t,d=some t→t < N:=by
     intro t ht
     have hcall:∃ f' asx,cCall P N o f' asx=some (.call d f args):=by
      have hop:compOp P N o=some (.call d f args):=by
       rw [← deepen_is hopd (fun _ _ _ _ _=>AOp.noConfusion) (fun _ _ _ _=>AOp.noConfusion) (fun _ _ _ _ _=>AOp.noConfusion)]; exact hop0
      unfold compOp at hop
      split at hop
      case h_21 cc ho=>
       unfold compCall at hop
       split at hop
       ·exfalso
        simp only [cLen] at hop
        repeat' split at hop
        all_goals first | (cases hop; done)
       ·exfalso
        simp only [cApp] at hop
        repeat' split at hop
        all_goals first | (cases hop; done)
       ·exfalso
        simp only [cMm] at hop
        repeat' split at hop
        all_goals first | (cases hop; done)
       ·exfalso
        simp only [cMm] at hop
        repeat' split at hop
        all_goals first | (cases hop; done)
       ·exfalso
        simp only [cUsd] at hop
        repeat' split at hop
        all_goals first | (cases hop; done)
       ·exfalso
        simp only [cUst] at hop
        repeat' split at hop
        all_goals first | (cases hop; done)
       ·exact ⟨_,_,hop⟩
       ·exfalso
        simp only [cCallv] at hop
        repeat' split at hop
        all_goals first | (cases hop; done)
       ·cases hop
      all_goals exfalso
      all_goals first | (cases hop; done) | skip
      all_goals simp only [cMove,cPick,cLoad,cFad,cIxa,cBin,cUn,cCnv,cIxs,cSlc,cExt,cFld,cVar,cBox,cSt,cBld,cBsl,cMks,cNil,cMki,cTas,cMkf,cMkm,cMup,cLku,cMen,cMes,cPan] at hop
      all_goals (repeat' split at hop)
      all_goals first | (cases hop; done)
     obtain ⟨f',asx,hcall⟩:=hcall
     unfold cCall at hcall
     split at hcall
     ·split at hcall
      ·rename_i hcc
       have hdo:=hcc.2.2
       have hod:o.dst=some t:=by rw [hda]; exact ht
       unfold dstOk at hdo
       rw [hod] at hdo
       exact of_decide_eq_true hdo
      ·cases hcall
     ·cases hcall
    exact gen rfl (fun K2 hk2=>SCall.lend hdN e1 e2 e3 (fun q hq=>by rw [hq]; exact e4) (fun q hq=>by rw [hq,e5]; exact hk2))
   | box d y=>exact gen rfl (fun K2 hk2=>(hperf.does F H ag (fun _=>rfl) (KeepV.same _ _ _) K2 (by rw [hda] at hk2; exact (hperf.same rfl) ▸ hk2)).2)
   | mks d e eb z l=>exact gen rfl (fun K2 hk2=>(hperf.does F H ag (fun _=>rfl) (KeepV.same _ _ _) K2 (by rw [hda] at hk2; exact (hperf.same rfl) ▸ hk2)).2)
   | mov d y=>exact gen rfl (fun K2 hk2=>(hperf.does F H ag (fun _=>rfl) (KeepV.same _ _ _) K2 (by rw [hda] at hk2; exact (hperf.same rfl) ▸ hk2)).2)
   | st sz p y=>exact gen rfl (fun K2 hk2=>(hperf.does F H ag (fun _=>rfl) (KeepV.same _ _ _) K2 (by rw [hda] at hk2; exact hk2)).2)
   | app d e sz eb s y=>exact gen rfl (fun K2 hk2=>(hperf.does F H ag (fun _=>rfl) (KeepV.same _ _ _) K2 (by rw [hda] at hk2; exact hk2)).2)
   | aps d e s y=>exact gen rfl (fun K2 hk2=>(hperf.does F H ag (fun _=>rfl) (KeepV.same _ _ _) K2 (by rw [hda] at hk2; exact hk2)).2)
   | mkm d kd=>exact gen rfl (fun K2 hk2=>(hperf.does F H ag (fun _=>rfl) (KeepV.same _ _ _) K2 (by rw [hda] at hk2; exact hk2)).2)
   | mup kd m k x=>exact gen rfl (fun K2 hk2=>(hperf.does F H ag (fun _=>rfl) (KeepV.same _ _ _) K2 (by rw [hda] at hk2; exact hk2)).2)
   | men d kd z m k=>exact gen rfl (fun K2 hk2=>(hperf.does F H ag (fun _=>rfl) (KeepV.same _ _ _) K2 (by rw [hda] at hk2; exact hk2)).2)
   | mes m s x=>exact gen rfl (fun K2 hk2=>(hperf.does F H ag (fun _=>rfl) (KeepV.same _ _ _) K2 (by rw [hda] at hk2; exact hk2)).2)
   | ust d e x n=>exact gen rfl (fun K2 hk2=>(hperf.does F H ag (fun _=>rfl) (KeepV.same _ _ _) K2 (by rw [hda] at hk2; exact hk2)).2)
   | _=>exact gen rfl (fun K2 hk2=>(hperf.does F H ag (fun _=>rfl) (KeepV.same _ _ _) K2 (by rw [hda] at hk2; exact (hperf.same rfl) ▸ hk2)).2)
 ·cases he
  have hw:Region.wanted o (yielded ops a.tmps)=false:=by
   have:guardP g F False True:=by
    unfold guardP
    simp only [gOff] at hoff
    cases g with
    | none=>exact hoff
    | some sb=>
     obtain ⟨s,b⟩:=sb
     simp only at hoff ⊢
     rcases hoff with hoff | ⟨xs,hoff⟩
     ·rw [hoff]
      cases b<;>trivial
     ·rw [hoff]; trivial
   rcases guard_ok hm.rf hg this with ⟨_,h⟩ | ⟨h,_⟩
   ·exact h.elim
   ·exact h
  rw [if_neg (by rw [hw]; simp)]
  exact hK c _ ⟨hm.step,hst,skip_ok hm.rf _ (by rw [hm.size]; exact hdst),by rw [size_put,hm.size],by rw [defers_put,hm.defers],hm.base⟩ (fun o' j' hoj d zs hv'=>hp o' j' (by simp [hoj]) d zs hv')
end
end Ab
end Go.Proofs.YtgddkgbidhhheaaGreatDoor
namespace Go.Proofs.YtgddkgbidhhheaaGreatDoor
open Go.RowKit
namespace Ab
section
variable {P:Program} {G:Gs}
def maskOf (ms:List Nat) (o:Oper):Nat:=o.after.toList.foldl (fun s e=>if Region.binds .any e then s ||| (2 ^ e.on ||| ms.getD e.on 0) else s) 0
def masks:List Nat→List Oper→List Nat
 | ms,[]=>ms
 | ms,o :: r=>masks (ms++[maskOf ms o]) r
def Deps (ops:Array Oper) (listed:Array Bool) (i:Nat):Prop:=∀ o,ops[i]? = some o→∀ e ∈ o.after,Region.binds .any e=true→listed.getD e.on false=true
def Closed (ops:Array Oper) (listed:Array Bool):Prop:=∀ i,listed.getD i false=true→Deps ops listed i
theorem fold_bits {ms:List Nat} {k:Nat}:∀ (es:List Edge) (s:Nat),(es.foldl (fun s e=>if Region.binds .any e then s ||| (2 ^ e.on ||| ms.getD e.on 0) else s) s).testBit k=true →
  s.testBit k=true∨∃ e ∈ es,Region.binds .any e=true∧(e.on=k∨(ms.getD e.on 0).testBit k=true)
 | [],s,h=>.inl h
 | e :: es,s,h=>by
  simp only [List.foldl_cons] at h
  rcases fold_bits es _ h with h | ⟨e',he',h1,h2⟩
  ·split at h
   ·rename_i hb
    rw [Nat.testBit_or,Nat.testBit_or,Bool.or_eq_true,Bool.or_eq_true] at h
    rcases h with h | h | h
    ·exact .inl h
    ·right
     refine ⟨e,by simp,hb,.inl ?_⟩
     rw [Nat.testBit_two_pow] at h
     simpa using h
    ·exact .inr ⟨e,by simp,hb,.inr h⟩
   ·exact .inl h
  ·exact .inr ⟨e',by simp [he'],h1,h2⟩
def GoodM (ops:Array Oper) (ms:List Nat):Prop:=∀ i m,ms[i]? = some m→∀ k,m.testBit k=true→∀ listed,Closed ops listed→Deps ops listed i→listed.getD k false=true
theorem masks_good {ops:Array Oper}:∀ (l:List Oper) (ms:List Nat),(∀ j,l[j]? = ops[ms.length + j]?)→GoodM ops ms→GoodM ops (masks ms l)
 | [],ms,_,h=>h
 | o :: r,ms,hl,h=>by
  refine masks_good r _ (fun j=>by have:=hl (j + 1); simpa [Nat.add_assoc,Nat.add_comm 1 j] using this) (fun i m hi k hk listed hcl hd=>?_)
  rw [List.getElem?_append] at hi
  split at hi
  ·exact h i m hi k hk listed hcl hd
  ·have hil:i=ms.length:=by
    cases hq:i - ms.length with
    | zero=>omega
    | succ q=>rw [hq] at hi; simp at hi
   subst hil
   rw [Nat.sub_self] at hi
   cases hi
   have ho:ops[ms.length]? = some o:=by simpa using (hl 0).symm
   unfold maskOf at hk
   rcases fold_bits _ _ hk with h0 | ⟨e,he,hb,h1⟩
   ·simp at h0
   ·have hle:=hd o ho e (Array.mem_toList_iff.1 he) hb
    rcases h1 with rfl | h1
    ·exact hle
    ·cases hm:ms[e.on]? with
     | none=>rw [List.getD_eq_getElem?_getD,hm] at h1; simp at h1
     | some m'=>
      rw [List.getD_eq_getElem?_getD,hm] at h1
      exact h e.on m' hm k h1 listed hcl (hcl e.on hle)
def drawB (ops:Array Oper) (al:List AOper):Bool:=
 let ms:=masks [] ops.toList
 (ops.toList.zipIdx.all fun x=>x.1.after.toList.all fun e=>!Region.binds .any e || decide (e.on < x.2)) &&
 (al.all fun o=>o.dst == dstA o.op) &&
 (al.zipIdx.all fun x=>al.zipIdx.all fun y=>!decide (y.2 < x.2) || (ms.getD x.2 0).testBit y.2 || commB y.1 x.1)
def varsOf:List AOper→List Ob
 | []=>[]
 | o :: r=>match o.op with
  | .var _ zs=>.var zs :: varsOf r
  | _=>varsOf r
theorem varsOf_cons (o:AOper) (r:List AOper):varsOf (o :: r)=(match o.op with | .var _ zs=>[Ob.var zs] | _=>[])++varsOf r:=by
 rw [varsOf]; split<;>rfl
theorem tags_len:∀ (al:List AOper) (j:Nat),(tags j al).length=al.length
 | [],j=>rfl
 | o :: r,j=>by simp [tags,tags_len r]
theorem tags_get:∀ (al:List AOper) (j i:Nat) (o:AOper),al[i]? = some o→∃ t,(tags j al)[i]? = some (o,t)∧j≤t
 | [],j,i,o,h=>by simp at h
 | x :: r,j,0,o,h=>by cases h; exact ⟨j,rfl,Nat.le_refl _⟩
 | x :: r,j,i + 1,o,h=>by
  obtain ⟨t,h1,h2⟩:=tags_get r (bif isVar x.op then j + 1 else j) i o (by simpa using h)
  refine ⟨t,h1,?_⟩
  cases hv:isVar x.op with
  | true=>rw [hv] at h2; simp only [cond_true] at h2; omega
  | false=>rw [hv] at h2; exact h2
theorem tags_var:∀ (al:List AOper) (j i:Nat) (o:AOper) (t:Nat),(tags j al)[i]? = some (o,t)→∀ d zs,o.op=.var d zs→(varsOf al)[t - j]? = some (.var zs)∧j≤t
 | [],j,i,o,t,h=>by simp [tags] at h
 | x :: r,j,0,o,t,h=>by
  simp only [tags,List.getElem?_cons_zero,Option.some.injEq,Prod.mk.injEq] at h
  obtain ⟨rfl,rfl⟩:=h
  intro d zs hv
  rw [varsOf_cons,hv,Nat.sub_self]
  exact ⟨rfl,Nat.le_refl _⟩
 | x :: r,j,i + 1,o,t,h=>by
  intro d zs hv
  simp only [tags,List.getElem?_cons_succ] at h
  obtain ⟨h1,h2⟩:=tags_var r _ i o t h d zs hv
  rw [varsOf_cons]
  cases hx:isVar x.op with
  | true=>
   rw [hx] at h1 h2
   simp only [cond_true] at h1 h2
   cases hop:x.op with
   | var d' zs'=>
    simp only
    refine ⟨?_,by omega⟩
    have:t - j=(t - (j + 1)) + 1:=by omega
    rw [this]; simpa using h1
   | _=>rw [hop] at hx; cases hx
  | false=>
   rw [hx] at h1 h2
   simp only [cond_false] at h1 h2
   cases hop:x.op with
   | var d' zs'=>rw [hop] at hx; cases hx
   | _=>exact ⟨by simpa using h1,h2⟩
theorem tags_inc:∀ (al:List AOper) (j i i':Nat) (o o':AOper) (t t':Nat),(tags j al)[i]? = some (o,t)→(tags j al)[i']? = some (o',t')→i < i'→isVar o.op=true→t < t'
 | [],j,i,i',o,o',t,t',h,h',hlt,hv=>by simp [tags] at h
 | x :: r,j,0,i' + 1,o,o',t,t',h,h',hlt,hv=>by
  simp only [tags,List.getElem?_cons_zero,Option.some.injEq,Prod.mk.injEq] at h
  obtain ⟨rfl,rfl⟩:=h
  simp only [tags,List.getElem?_cons_succ,hv,cond_true] at h'
  have hi:i' < r.length:=by have:=(List.getElem?_eq_some_iff.1 h').1; rwa [tags_len] at this
  obtain ⟨t2,h1,h2⟩:=tags_get r (j + 1) i' r[i'] (List.getElem?_eq_getElem hi)
  rw [h1] at h'
  cases h'
  omega
 | x :: r,j,i + 1,i' + 1,o,o',t,t',h,h',hlt,hv=>by
  simp only [tags,List.getElem?_cons_succ] at h h'
  exact tags_inc r _ i i' o o' t t' h h' (by omega) hv
 | x :: r,j,i,0,o,o',t,t',h,h',hlt,hv=>by omega
theorem compOps_at {N:Nat} {dp:Dp} {ops:Array Oper}:∀ (l:List Oper) (al:List AOper),compOps P N dp ops l=some al→l.length=al.length∧∀ (i:Nat) (o:Oper),l[i]? = some o→∃ ao,al[i]? = some ao∧compOper P N dp ops o=some ao
 | [],al,h=>by cases h; exact ⟨rfl,fun i o h=>by simp at h⟩
 | o :: l,al,h=>by
  simp only [compOps] at h
  split at h
  ·rename_i a asx ha has
   cases h
   obtain ⟨h1,h2⟩:=compOps_at l asx has
   refine ⟨by simp [h1],fun i o' hi=>?_⟩
   cases i with
   | zero=>cases hi; exact ⟨a,rfl,ha⟩
   | succ i=>exact h2 i o' (by simpa using hi)
  ·cases h
def rem (n:Nat) (listed:Array Bool):List Nat:=(List.range n).filter fun i=>!listed.getD i true
def pickT (T:List (AOper × Nat)) (L:List Nat):List (AOper × Nat):=L.filterMap fun i=>T[i]?
theorem pickT_app (T:List (AOper × Nat)) (a b:List Nat):pickT T (a++b)=pickT T a++pickT T b:=List.filterMap_append
theorem rem_split {n i:Nat} {listed:Array Bool} (hi:i < n) (hl:listed.getD i true=false) (hz:listed.size=n) :
  ∃ l1 l2,rem n listed=l1++i :: l2∧rem n (listed.setIfInBounds i true)=l1++l2∧(∀ k ∈ l1,k < i∧listed.getD k true=false)∧(∀ k ∈ l2,i < k∧listed.getD k true=false):=by
 obtain ⟨m,rfl⟩:∃ m,n=i + 1 + m:=⟨n - (i + 1),by omega⟩
 have hr:List.range (i + 1 + m)=List.range i++i :: (List.range m).map (i + 1 + ·):=by
  rw [List.range_add,List.range_succ,List.append_assoc]; rfl
 have hset:∀ k,k≠i→(listed.setIfInBounds i true).getD k true=listed.getD k true:=fun k hk=>by
  rw [Array.getD_eq_getD_getElem?,Array.getD_eq_getD_getElem?,Array.getElem?_setIfInBounds_ne (Ne.symm hk)]
 have hseti:(listed.setIfInBounds i true).getD i true=true:=by
  rw [Array.getD_eq_getD_getElem?]
  have:i < listed.size:=by omega
  simp [this]
 refine ⟨(List.range i).filter (fun k=>!listed.getD k true),((List.range m).map (i + 1 + ·)).filter (fun k=>!listed.getD k true),?_,?_,fun k hk=>?_,fun k hk=>?_⟩
 ·unfold rem
  rw [hr,List.filter_append,List.filter_cons,if_pos (by rw [hl]; rfl)]
 ·unfold rem
  rw [hr,List.filter_append,List.filter_cons,if_neg (by rw [hseti]; simp)]
  congr 1
  ·refine List.filter_congr (fun k hk=>?_)
   rw [hset k (by have:=List.mem_range.1 hk; omega)]
  ·refine List.filter_congr (fun k hk=>?_)
   obtain ⟨q,_,rfl⟩:=List.mem_map.1 hk
   rw [hset _ (by omega)]
 ·obtain ⟨h1,h2⟩:=List.mem_filter.1 hk
  exact ⟨List.mem_range.1 h1,by simpa using h2⟩
 ·obtain ⟨h1,h2⟩:=List.mem_filter.1 hk
  obtain ⟨q,_,rfl⟩:=List.mem_map.1 h1
  exact ⟨by omega,by simpa using h2⟩
theorem getD_tf {listed:Array Bool} {i:Nat} (h:i < listed.size):listed.getD i true=listed.getD i false:=by
 simp [h]
theorem mem_pick {T:List (AOper × Nat)} {L:List Nat} {x:AOper × Nat} (h:x ∈ pickT T L):∃ i ∈ L,T[i]? = some x:=by
 obtain ⟨i,h1,h2⟩:=List.mem_filterMap.1 h
 exact ⟨i,h1,h2⟩
set_option maxHeartbeats 1000000 in
theorem sched {N : Nat} {dp : Dp} {ops : Array Oper} {al : List AOper} (hal : compOps P N dp ops ops.toList = some al) (hB : drawB ops al = true) {w0 : World} (hG : G.inv w0) {ds : List Deferred} {c0 : Cx} {H0 : List Ob} {base : Nat} {Sf : Fr × List Ob} {Q : Exit → Act → World → Prop}
    (hQp : ∀ ch a' w', PanAt G w0 ds c0 H0 ch a' w' → Q (.panic ch) a' w') (hQ : ∀ c a, Mid w0 N ds c0 H0 base c Sf.1 Sf.2 a → Q .normal a c.w) :
    ∀ (fuel : Nat) (listed : Array Bool) (c : Cx) (F : Fr) (H : List Ob) (a : Act), listed.size = ops.size → (rem ops.size listed).length = fuel → Closed ops listed → Mid w0 N ds c0 H0 base c F H a → Pend c H base (pickT (tags 0 al) (rem ops.size listed)) →
      Run P G N base (pickT (tags 0 al) (rem ops.size listed)) (F, H) Sf → wpAny P .any ops Q fuel listed a c.w := by
  obtain ⟨hlen, hat⟩ := compOps_at _ _ hal
  have hlen' : ops.size = al.length := by simpa using hlen
  simp only [drawB, Bool.and_eq_true] at hB
  obtain ⟨⟨hB1, hB2⟩, hB3⟩ := hB
  have hgood : GoodM ops (masks [] ops.toList) := masks_good ops.toList [] (fun j => by simp) (fun i m h => by simp at h)
  have hready_un : ∀ {listed : Array Bool} {i : Nat}, i ∈ Region.ready .any ops listed → listed.getD i true = false ∧ Deps ops listed i ∧ i < ops.size := fun {listed i} h => by
    obtain ⟨h1, o, h2, h3⟩ := mem_ready.1 h
    refine ⟨h1, fun o' ho' e he hb => ?_, (Array.getElem?_eq_some_iff.1 h2).1⟩
    rw [h2] at ho'; cases ho'
    exact h3 e he hb
  intro fuel
  induction fuel with
  | zero =>
    intro listed c F H a hz hf hcl hm hp hr
    have hL : rem ops.size listed = [] := List.eq_nil_of_length_eq_zero hf
    rw [hL] at hr
    have hS : (F, H) = Sf := hr
    subst hS
    refine ⟨?_, hQ c a hm⟩
    rw [List.eq_nil_iff_forall_not_mem]
    intro i hi
    obtain ⟨h1, _, h3⟩ := hready_un hi
    have : i ∈ rem ops.size listed := List.mem_filter.2 ⟨List.mem_range.2 h3, by rw [h1]; rfl⟩
    rw [hL] at this; cases this
  | succ fuel ih =>
    intro listed c F H a hz hf hcl hm hp hr
    refine ⟨fun hnone => ?_, fun i hi => ?_⟩
    · exfalso
      cases hL : rem ops.size listed with
      | nil => rw [hL] at hf; simp at hf
      | cons i L =>
        have hmem : i ∈ rem ops.size listed := by rw [hL]; simp
        obtain ⟨h1, h2⟩ := List.mem_filter.1 hmem
        have hin := List.mem_range.1 h1
        have hun : listed.getD i true = false := by simpa using h2
        obtain ⟨l1, l2, e1, _, e3, _⟩ := rem_split hin hun hz
        have hl1 : l1 = [] := by
          cases l1 with
          | nil => rfl
          | cons k l1 =>
            rw [hL] at e1
            simp only [List.cons_append, List.cons.injEq] at e1
            have := (e3 k (by simp)).1
            omega
        have hready : i ∈ Region.ready .any ops listed := by
          refine mem_ready.2 ⟨hun, ops[i], Array.getElem?_eq_getElem hin, fun e he hb => ?_⟩
          have h3 := List.all_eq_true.1 hB1 (ops[i], i) (by
            rw [List.mem_zipIdx_iff_getElem?]
            simp [hin])
          have h4 := List.all_eq_true.1 h3 e (Array.mem_toList_iff.2 he)
          rw [hb] at h4
          have hlt : e.on < i := by simpa using h4
          rw [← getD_tf (by omega)]
          cases hq : listed.getD e.on true with
          | true => rfl
          | false =>
            exfalso
            have : e.on ∈ rem ops.size listed := List.mem_filter.2 ⟨List.mem_range.2 (by omega), by rw [hq]; rfl⟩
            rw [e1, hl1, List.nil_append] at this
            rcases List.mem_cons.1 this with h | h
            · omega
            · obtain ⟨_, _, e1', _, _, e4⟩ := rem_split hin hun hz
              have h5 : e.on ∈ rem ops.size listed := List.mem_filter.2 ⟨List.mem_range.2 (by omega), by rw [hq]; rfl⟩
              have hsorted : ∀ k ∈ l2, i < k := by
                obtain ⟨m1, m2, f1, _, f3, f4⟩ := rem_split hin hun hz
                have hm1 : m1 = [] := by
                  cases m1 with
                  | nil => rfl
                  | cons k m1 =>
                    rw [hL] at f1
                    simp only [List.cons_append, List.cons.injEq] at f1
                    have := (f3 k (by simp)).1
                    omega
                rw [e1, hl1, hm1] at f1
                simp only [List.nil_append, List.cons.injEq, true_and] at f1
                intro k hk
                exact (f4 k (f1 ▸ hk)).1
              have := hsorted _ h
              omega
        rw [hnone] at hready; cases hready
    · obtain ⟨hun, hdeps, hin⟩ := hready_un hi
      obtain ⟨l1, l2, e1, e2, e3, e4⟩ := rem_split hin hun hz
      have hoi : ops[i]? = some ops[i] := Array.getElem?_eq_getElem hin
      obtain ⟨ao, ha1, ha2⟩ := hat i ops[i] (by simp [hin])
      obtain ⟨t, ht1, ht2⟩ := tags_get al 0 i ao ha1
      have hpick : pickT (tags 0 al) (l1 ++ i :: l2) = pickT (tags 0 al) l1 ++ (ao, t) :: pickT (tags 0 al) l2 := by
        rw [pickT_app]
        congr 1
        simp [pickT, ht1]
      rw [e1, hpick] at hr hp
      have hcomm : ∀ x ∈ pickT (tags 0 al) l1, commB x.1 ao = true := fun x hx => by
        obtain ⟨k, hk, hkx⟩ := mem_pick hx
        obtain ⟨hki, hku⟩ := e3 k hk
        have hkal : k < al.length := by have := (List.getElem?_eq_some_iff.1 hkx).1; rwa [tags_len] at this
        obtain ⟨t', ht', _⟩ := tags_get al 0 k al[k] (List.getElem?_eq_getElem hkal)
        rw [ht'] at hkx
        cases hkx
        have h3 := List.all_eq_true.1 (List.all_eq_true.1 hB3 (ao, i) (by rw [List.mem_zipIdx_iff_getElem?]; exact ha1)) (al[k], k) (by rw [List.mem_zipIdx_iff_getElem?]; exact List.getElem?_eq_getElem hkal)
        simp only [Bool.or_eq_true, Bool.not_eq_true', decide_eq_false_iff_not] at h3
        rcases h3 with (h3 | h3) | h3
        · exact absurd hki h3
        · exfalso
          cases hmi : (masks [] ops.toList)[i]? with
          | none => rw [List.getD_eq_getElem?_getD, hmi] at h3; simp at h3
          | some m =>
            rw [List.getD_eq_getElem?_getD, hmi] at h3
            have := hgood i m hmi k h3 listed hcl hdeps
            rw [← getD_tf (by omega), hku] at this
            cases this
        · exact h3
      obtain ⟨S1, hs1, hr1⟩ := run_first _ _ (F, H) Sf hcomm hr
      obtain ⟨F1, H1⟩ := S1
      have hda : ao.dst = dstA ao.op := by
        have := List.all_eq_true.1 hB2 ao (List.mem_of_getElem? ha1)
        exact beq_iff_eq.1 this
      have hpend : Pend c H base ((ao, t) :: (pickT (tags 0 al) l1 ++ pickT (tags 0 al) l2)) := fun o j hj => hp o j (by
        simp only [List.mem_cons, List.mem_append] at hj ⊢
        rcases hj with h | h | h
        · exact .inr (.inl h)
        · exact .inl h
        · exact .inr (.inr h))
      have hdisj : isVar ao.op = true → ∀ o' j', (o', j') ∈ pickT (tags 0 al) l1 ++ pickT (tags 0 al) l2 → isVar o'.op = true → j' ≠ t := fun hv o' j' hmem hv' => by
        rw [← pickT_app] at hmem
        obtain ⟨k, hk, hkx⟩ := mem_pick hmem
        rcases List.mem_append.1 hk with hk | hk
        · have := tags_inc al 0 k i o' ao j' t hkx ht1 (e3 k hk).1 hv'
          omega
        · have := tags_inc al 0 i k ao o' t j' ht1 hkx (e4 k hk).1 hv
          omega
      have key := stp_ok (Q := Q) (K := wpAny P .any ops Q fuel (listed.setIfInBounds i true)) hG (ops := ops) ha2 hda hdisj hm hpend hs1 hQp (fun c' a' hm' hp' => by
        refine ih (listed.setIfInBounds i true) c' F1 H1 a' (by simpa using hz) ?_ ?_ hm' ?_ ?_
        · rw [e2]
          rw [e1] at hf
          simp only [List.length_append, List.length_cons] at hf ⊢
          omega
        · intro k hk o ho e he hb
          by_cases hik : i = k
          · subst hik
            exact getD_set_true (hdeps o ho e he hb)
          · rw [getD_set_ne false hik] at hk
            exact getD_set_true (hcl k hk o ho e he hb)
        · rw [e2, pickT_app]; exact hp'
        · rw [e2, pickT_app]; exact hr1)
      unfold wpOp
      rw [hoi]
      simp only
      split
      · rename_i hw; rw [if_pos hw] at key; exact .inl key
      · rename_i hw; rw [if_neg hw] at key; exact key
theorem vars_flat {N : Nat} {dp : Dp} {ops : Array Oper} {al : List AOper} (hal : compOps P N dp ops ops.toList = some al) : ∀ x ∈ varsOf al, ∃ zs : List Value, x = .var (zs.map .v) ∧ zs.all flat = true := by
  have : ∀ (l : List Oper) (asx : List AOper), compOps P N dp ops l = some asx → ∀ x ∈ varsOf asx, ∃ zs : List Value, x = .var (zs.map .v) ∧ zs.all flat = true := by
    intro l
    induction l with
    | nil => intro asx h x hx; cases h; simp [varsOf] at hx
    | cons o l ih =>
      intro asx h x hx
      simp only [compOps] at h
      split at h
      · rename_i ao as' hao has
        cases h
        rw [varsOf_cons, List.mem_append] at hx
        rcases hx with hx | hx
        · obtain ⟨g, op, hg, hop, _, rfl⟩ := compOper_inv hao
          · skip
            simp only at hx
            split at hx
            · rename_i d zs hv
              obtain ⟨t, i, z, _, _, _, _, _, hf, rfl⟩ := inv_var (show compOp P N o = some (.var d zs) by
                rw [← deepen_is hv (fun _ _ _ _ _ => AOp.noConfusion) (fun _ _ _ _ => AOp.noConfusion) (fun _ _ _ _ _ => AOp.noConfusion)]; exact hop)
              rw [List.mem_singleton.1 hx]
              exact ⟨_, rfl, hf⟩
            · cases hx
        · exact ih as' has x hx
      · cases h
  exact this _ _ hal
theorem AW.draw {N : Nat} {dp : Dp} {id : Nat} {ops : Array Oper} {al : List AOper} (hmix : P.follows .mixedOrders = true) (hal : compOps P N dp ops ops.toList = some al) (hB : drawB ops al = true) {Q : Exit → Fr → List Ob → Prop} {F : Fr} {H : List Ob}
    (h : awpD P G N H.length 0 al (Q .normal) F (H ++ varsOf al)) : AW P G N (.region id ops true) Q F H := by
  intro w0 ds c a hG hS hF hN hds
  have hdst : ∀ o ∈ al, o.dst = dstA o.op := by
    simp only [drawB, Bool.and_eq_true] at hB
    exact fun o ho => beq_iff_eq.1 (List.all_eq_true.1 hB.1.2 o ho)
  obtain ⟨Sf, hrun, hK⟩ := run_of al 0 (Q .normal) F _ hdst h
  obtain ⟨s1, t1⟩ := below_st hS (w1 := { c.w with drawn := c.w.drawn + 1 }) ⟨rfl, rfl, rfl, Nat.le_refl _, fun _ _ => rfl⟩
  let c1 : Cx := { (c.at { c.w with drawn := c.w.drawn + 1 }) with k := c.k + (varsOf al).length }
  have hle : (c.at { c.w with drawn := c.w.drawn + 1 }).le c1 := ⟨fun _ h => h, fun _ _ => rfl, fun _ _ => rfl, Nat.le_refl _, fun b _ hm => ⟨rfl, hm⟩⟩
  have hvars : ∀ x ∈ varsOf al, ∃ zs : List Value, x = .var (zs.map .v) ∧ zs.all flat = true := vars_flat hal
  have hget : ∀ i x, (H ++ varsOf al)[i]? = some x → (i < c.k ∧ H[i]? = some x) ∨ (c.k ≤ i ∧ x ∈ varsOf al) := fun i x hx => by
    rw [List.getElem?_append] at hx
    split at hx
    · exact .inl ⟨by rw [hS.k]; assumption, hx⟩
    · exact .inr ⟨by rw [hS.k]; omega, List.mem_of_getElem? hx⟩
  have hbl : ∀ i, c1.born i → i < c.k := fun i hi => hS.bl i hi
  have hwr : ∀ b, Wr c1 (H ++ varsOf al) b → Wr c H b := fun b ⟨i, x, hx, hl, hbn, he⟩ => by
    rcases hget i x hx with ⟨_, hx'⟩ | ⟨hi, _⟩
    · exact ⟨i, x, hx', hl, hbn, he⟩
    · have := hbl i hbn; omega
  have hstep : Step c H c1 (H ++ varsOf al) :=
    ⟨t1.le.trans hle, rfl, rfl, rfl, fun b _ _ => rfl, fun b _ hm => hm, fun b _ _ hm => hm, fun b hb => .inl (hwr b hb), Nat.le_add_right _ _, fun i _ hb => hb⟩
  have hst : St w0 c1 (H ++ varsOf al) := by
    refine ⟨by show c.k + _ = _; rw [hS.k, List.length_append], fun i hi => by have := hbl i hi; show i < c.k + _; omega, fun i x hx => ?_, fun i j oi oj hi hj li lj ni nj he => ?_, fun b hb => hS.base b (hwr b hb), s1.mlt, hS.below' hstep⟩
    · rcases hget i x hx with ⟨_, hx'⟩ | ⟨hi, hm⟩
      · refine (s1.ob i x hx').le hle (fun h => h) (fun hl hbn => ⟨rfl, s1.live_M ⟨i, x, hx', hl, hbn, rfl⟩⟩)
      · obtain ⟨zs, rfl, hf⟩ := hvars x hm
        exact .inr ⟨fun hb => by have := hbl i hb; omega, zs, rfl, hf⟩
    · rcases hget i oi hi with ⟨_, hi'⟩ | ⟨h1, _⟩
      · rcases hget j oj hj with ⟨_, hj'⟩ | ⟨h1, _⟩
        · exact hS.inj i j oi oj hi' hj' li lj ni nj he
        · have := hbl j nj; omega
      · have := hbl i ni; omega
  refine wp_region_any hmix ?_
  have hrem : rem ops.size (Array.replicate ops.size false) = List.range ops.size := by
    unfold rem
    refine List.filter_eq_self.2 (fun i hi => ?_)
    have := List.mem_range.1 hi
    simp [this]
  obtain ⟨hlen, _⟩ := compOps_at _ _ hal
  have hlen' : ops.size = al.length := by simpa using hlen
  have hpick : pickT (tags 0 al) (List.range ops.size) = tags 0 al := by
    rw [hlen', ← tags_len al 0]
    unfold pickT
    apply List.ext_getElem?
    intro q
    have : ∀ (T : List (AOper × Nat)) (n : Nat), n ≤ T.length → (List.range n).filterMap (fun i => T[i]?) = T.take n := by
      intro T n
      induction n with
      | zero => intro _; simp
      | succ n ih =>
        intro hn
        rw [List.range_succ, List.filterMap_append, ih (by omega), List.take_add_one]
        have : T[n]? = some T[n] := List.getElem?_eq_getElem (by omega)
        simp [this]
    rw [this _ _ (Nat.le_refl _), List.take_length]
  have := sched (P := P) (G := G) (Q := FinE G w0 N ds c H Q) hal hB hG (ds := ds) (c0 := c) (H0 := H) (base := H.length) (Sf := Sf)
    (fun ch a' w' h => .inl ⟨ch, rfl, h⟩) (fun c' a' hm => .inr ⟨c', Sf.1, Sf.2, rfl, hm.step, hm.st, hm.rf, hm.size, hm.defers, hK⟩)
    ops.size (Array.replicate ops.size false) c1 F (H ++ varsOf al) a (by simp) (by rw [hrem]; simp) (fun i hi => by rw [getD_replicate_false] at hi; cases hi)
    ⟨hstep, hst, hF.le hstep.le, hN, hds, by rw [hS.k]⟩ (by
      rw [hrem, hpick]
      intro o j hoj d zs hv
      obtain ⟨i, hi⟩ := List.mem_iff_getElem?.1 hoj
      obtain ⟨h1, _⟩ := tags_var al 0 i o j hi d zs hv
      refine ⟨?_, fun hb => by have := hbl _ hb; rw [hS.k] at this; omega⟩
      rw [List.getElem?_append_right (by omega)]
      simpa using h1) (by rw [hrem, hpick]; exact hrun)
  exact this
end
end Ab
end Go.Proofs.YtgddkgbidhhheaaGreatDoor
namespace Go.Proofs.YtgddkgbidhhheaaGreatDoor
open Go.RowKit
namespace Ab
section
variable {P:Program} {G:Gs}
theorem SCall.ofAC {N:Nat} {d:Option Nat} (hdN:∀ t,d=some t→t < N) {f:FuncId} {args:List Opd} {F:Fr} {H:List Ob} {K:Fr→List Ob→Prop} {xs:List AV} (hx:evA F args=some xs) {post:AV→List Ob→Prop}
  (hA:AC P G f xs H post) (hK:∀ x H2,post x H2→K (putF F d x) H2) (hkf:KeepF G.keep F):SCall P G N d f args F H K:=by
 intro w0 ds c a vs hGw hS hF hN hds ⟨hvl,hvs⟩
 obtain ⟨g1,g2⟩:=evA_at args xs hx
 refine (hA w0 c vs hGw hS ⟨by rw [hvl,g1],fun j x hxj=>?_⟩).mono fun e w' hh=>?_
 ·obtain ⟨p,hp1,hp2⟩:=g2 j x hxj
  exact hvs j p x hp1 hp2
 ·rcases hh with ⟨c',u,x,os,rfl,rfl,ht,hs,hv,hpost⟩ | ⟨ch,c',os,u,x,rfl,rfl,ht,hs,hch,hrd,hpan⟩
  ·exact .inl ⟨u,rfl,⟨c',_,_,rfl,ht,hs,(hF.le ht.le).putF (fun t h=>by rw [hN]; exact hdN t h) hv,by rw [size_put,hN],by rw [defers_put,hds],hK x os hpost⟩⟩
  ·exact .inr ⟨ch,rfl,c',os,u,x,rfl,ht,hs,hch,hrd,hpan,hds,(hkf.rf hF).le ht.le⟩
def coverQ (qs:List Nat) (F:Fr) (i:Nat):Prop:=∃ q ∈ qs,∃ off,F q=some (.ptr i off)
def XCall (P:Program) (G:Gs) (base:Nat) (qs:List Nat) (d:Option Nat) (f:FuncId) (args:List Opd) (F:Fr) (H:List Ob) (K:Fr→List Ob→Prop):Prop:=
 ∃ (xs:List AV) (ids:List Nat),evA F args=some xs∧(∀ i ∈ ids,i < base)∧(∀ i ∈ ids,∀ cs,H[i]? = some (.var cs)→coverQ qs F i) ∧
  AC P G f xs H (fun x H2=>(∀ i o,i ∉ ids→H[i]? = some o→H2[i]? = some o)∧K (putF F d x) H2)
def freeB (qs:List Nat) (o:AOper):Bool:=quietK o.op && !hreadK o.op && (match o.op with
 | .ldd _ _ _ _ ps=>qs.all fun q=>ps.any fun p=>match p with | .t n=>n == q | _=>false
 | _=>true)
def freeV (qs:List Nat) (o:AOper):Bool:=isVar o.op || freeB qs o
theorem freeV_quiet {qs:List Nat} {o:AOper} (h:freeV qs o=true):chainK o.op=false∧hreadK o.op=false:=by
 unfold freeV at h
 rw [Bool.or_eq_true] at h
 rcases h with h | h
 ·cases hop:o.op<;>rw [hop] at h<;>first | exact ⟨rfl,rfl⟩ | (cases h)
 ·simp only [freeB,Bool.and_eq_true,Bool.not_eq_true'] at h
  have hq:=h.1.1
  refine ⟨?_,h.1.2⟩
  cases hop:o.op<;>rw [hop] at hq<;>first | rfl | (cases hq)
def inP (ci:Nat) (fr:List Nat) (k:Nat):Bool:=decide (k < ci) || fr.contains k
def inQ (ci:Nat) (fr:List Nat) (k:Nat):Bool:=!inP ci fr k && k != ci
def callB (ops:Array Oper) (qs fr:List Nat) (pre:List AOper) (c:AOper) (post:List AOper):Bool:=
 let ms:=masks [] ops.toList
 c.guard.isNone && (match c.op with | .call _ _ _=>true | _=>false) &&
 (pre.zipIdx.all fun x=>(ms.getD pre.length 0).testBit x.2 || freeV qs x.1) &&
 ((post.zipIdx (pre.length + 1)).all fun x=>bif fr.contains x.2 then freeV qs x.1 && !(ms.getD x.2 0).testBit pre.length else (ms.getD x.2 0).testBit pre.length && !isVar x.1.op) &&
 ((pre++c :: post).all fun o=>qs.all fun q=>offS o.dst [q]) &&
 ((post.zipIdx (pre.length + 1)).all fun x=>(post.zipIdx (pre.length + 1)).all fun y=>fr.contains x.2 || !fr.contains y.2 || !(ms.getD y.2 0).testBit x.2) &&
 (fr.all fun k=>decide (pre.length < k))
def keepL {α:Type} (p:Nat→Bool):Nat→List α→List α
 | _,[]=>[]
 | i,x :: r=>bif p i then x :: keepL p (i + 1) r else keepL p (i + 1) r
theorem keepL_snoc {α:Type} (p:Nat→Bool):∀ (A:List α) (i:Nat) (x:α),keepL p i (A++[x])=keepL p i A++(bif p (i + A.length) then [x] else [])
 | [],i,x=>by simp [keepL]
 | a :: A,i,x=>by
  simp only [List.cons_append,keepL,List.length_cons]
  rw [keepL_snoc p A (i + 1) x,show i + 1 + A.length=i + (A.length + 1) by omega]
  cases p i<;>simp
theorem pick_keep (T:List (AOper × Nat)) (p:Nat→Bool):∀ n,n≤T.length→pickT T ((List.range n).filter p)=keepL p 0 (T.take n)
 | 0,_=>by simp [pickT,keepL]
 | n + 1,h=>by
  have hn:n < T.length:=by omega
  rw [List.range_succ,List.filter_append,pickT_app,pick_keep T p n (by omega),List.take_succ_eq_append_getElem hn,keepL_snoc]
  congr 1
  simp only [List.length_take,Nat.zero_add,Nat.min_eq_left (Nat.le_of_lt hn)]
  cases hp:p n<;>simp [pickT,hp,hn]
theorem keepL_map {α β:Type} (p:Nat→Bool) (g:α→β):∀ (A:List α) (i:Nat),(keepL p i A).map g=keepL p i (A.map g)
 | [],i=>rfl
 | a :: A,i=>by
  simp only [keepL,List.map_cons]
  rw [← keepL_map p g A (i + 1)]
  cases p i<;>rfl
theorem keepL_mem {α:Type} {p:Nat→Bool}:∀ {A:List α} {i:Nat} {x:α},x ∈ keepL p i A→∃ k,A[k]? = some x∧p (i + k)=true
 | [],i,x,h=>by cases h
 | a :: A,i,x,h=>by
  simp only [keepL] at h
  cases hp:p i with
  | true=>
   rw [hp] at h
   rcases List.mem_cons.1 h with rfl | h
   ·exact ⟨0,rfl,hp⟩
   ·obtain ⟨k,h1,h2⟩:=keepL_mem h
    exact ⟨k + 1,h1,by rw [← h2]; congr 1; omega⟩
  | false=>
   rw [hp] at h
   obtain ⟨k,h1,h2⟩:=keepL_mem h
   exact ⟨k + 1,h1,by rw [← h2]; congr 1; omega⟩
theorem tags_fst:∀ (al:List AOper) (j:Nat),(tags j al).map (·.1)=al
 | [],j=>rfl
 | o :: r,j=>by simp [tags,tags_fst r]
theorem tags_keep (p:Nat→Bool):∀ (al:List AOper) (i j:Nat),(∀ k o,al[k]? = some o→p (i + k)=false→isVar o.op=false)→keepL p i (tags j al)=tags j (keepL p i al)
 | [],i,j,h=>rfl
 | o :: r,i,j,h=>by
  have ih:=fun j=>tags_keep p r (i + 1) j (fun k o' hk hp=>h (k + 1) o' hk (by rw [← hp]; congr 1; omega))
  simp only [keepL,tags]
  cases hp:p i with
  | true=>simp only [cond_true,tags,ih]
  | false=>
   have:=h 0 o rfl hp
   simp only [cond_false,this,ih]
theorem commB_symm {o o':AOper} (h:commB o o'=true):commB o' o=true:=by
 unfold commB at h ⊢
 simp only [Bool.and_eq_true,Bool.not_eq_true'] at h ⊢
 obtain ⟨⟨⟨⟨⟨⟨h1,h2⟩,h3⟩,h4⟩,h5⟩,h6⟩,h7⟩:=h
 refine ⟨⟨⟨⟨⟨⟨h2,h1⟩,?_⟩,?_⟩,?_⟩,h7⟩,h6⟩
 ·cases hd:o.dst with
  | none=>cases o'.dst<;>rfl
  | some a=>
   cases hd':o'.dst with
   | none=>rfl
   | some b=>
    rw [hd,hd'] at h3
    have:a≠b:=by simpa using h3
    simpa using this.symm
 ·cases hc:chainK o.op<;>cases hc':chainK o'.op<;>cases hr:hreadK o.op<;>cases hr':hreadK o'.op<;>simp_all
 ·cases hc:chainK o.op<;>cases hc':chainK o'.op<;>cases hr:hreadK o.op<;>cases hr':hreadK o'.op<;>simp_all
theorem dsem_tag {N base j j':Nat} {o:AOp} (h:isVar o=false):dsem P G N base j o=dsem P G N base j' o:=by
 cases o<;>first | rfl | (cases h)
theorem stp_tag {N base j j':Nat} {o:AOper} (h:isVar o.op=false) {S S':Fr × List Ob} (hs:Stp P G N base (o,j) S S'):Stp P G N base (o,j') S S':=by
 rcases hs with ⟨hg,x,H',hp,he⟩ | hs
 ·refine .inl ⟨hg,x,H',⟨fun F2 H2 a b c K2 hk=>?_,hp.same,hp.vars,hp.back⟩,he⟩
  have:=hp.does F2 H2 a b c K2 hk
  rw [dsem_tag (j':=j') h] at this
  exact this
 ·exact .inr hs
theorem run_tag {N base:Nat}:∀ (A B:List (AOper × Nat)) (S S':Fr × List Ob),A.map (·.1)=B.map (·.1)→(∀ x ∈ A,isVar x.1.op=false)→Run P G N base A S S'→Run P G N base B S S'
 | [],[],S,S',_,_,h=>h
 | [],_ :: _,S,S',he,_,_=>by simp at he
 | _ :: _,[],S,S',he,_,_=>by simp at he
 | (o,j) :: A,(o',j') :: B,S,S',he,hv,⟨S1,h1,h2⟩=>by
  simp only [List.map_cons,List.cons.injEq] at he
  obtain ⟨rfl,he⟩:=he
  exact ⟨S1,stp_tag (hv (o,j) (by simp)) h1,run_tag A B S1 S' he (fun x hx=>hv x (by simp [hx])) h2⟩
theorem run_merge {N base : Nat} {T : List (AOper × Nat)} {p1 p2 : Nat → Bool} (hdis : ∀ k, p1 k = true → p2 k = false) : ∀ (L : List Nat) (S S' : Fr × List Ob), (∀ k ∈ L, k < T.length) →
    List.Pairwise (fun a b => p2 a = true → p1 b = true → ∀ ta tb, T[a]? = some ta → T[b]? = some tb → commB tb.1 ta.1 = true) L →
    Run P G N base (pickT T (L.filter p1) ++ pickT T (L.filter p2)) S S' → Run P G N base (pickT T (L.filter fun k => p1 k || p2 k)) S S'
  | [], S, S', _, _, h => h
  | k :: L, S, S', hl, hpw, h => by
    obtain ⟨hk, hpw⟩ := List.pairwise_cons.1 hpw
    have hkl : k < T.length := hl k (by simp)
    have hl' : ∀ k ∈ L, k < T.length := fun x hx => hl x (by simp [hx])
    have hkt : T[k]? = some T[k] := List.getElem?_eq_getElem hkl
    have cons : ∀ X : List Nat, pickT T (k :: X) = T[k] :: pickT T X := fun X => by simp [pickT, hkt]
    cases h1 : p1 k with
    | true =>
      have h2 := hdis k h1
      simp only [List.filter_cons, h1, h2, if_true, Bool.true_or, Bool.false_eq_true, if_false] at h ⊢
      rw [cons] at h ⊢
      obtain ⟨S1, g1, g2⟩ := h
      exact ⟨S1, g1, run_merge hdis L S1 S' hl' hpw g2⟩
    | false =>
      cases h2 : p2 k with
      | true =>
        simp only [List.filter_cons, h1, h2, if_true, Bool.false_or, Bool.false_eq_true, if_false] at h ⊢
        rw [cons] at h ⊢
        obtain ⟨S1, g1, g2⟩ := run_first _ _ S S' (fun x hx => by
          obtain ⟨b, hb, hbx⟩ := mem_pick hx
          obtain ⟨hb1, hb2⟩ := List.mem_filter.1 hb
          exact hk b hb1 h2 hb2 _ _ hkt hbx) h
        exact ⟨S1, g1, run_merge hdis L S1 S' hl' hpw g2⟩
      | false =>
        simp only [List.filter_cons, h1, h2, Bool.false_or, Bool.false_eq_true, if_false] at h ⊢
        exact run_merge hdis L S S' hl' hpw h
theorem putF_comm {F:Fr} {d d':Option Nat} {x y:AV} (h:(match d,d' with | some a,some b=>a != b | _,_=>true)=true):putF (putF F d x) d' y=putF (putF F d' y) d x:=after_comm (some x) (some y) h
theorem skip_put_comm {F:Fr} {d d':Option Nat} {y:AV} (h:(match d,d' with | some a,some b=>a != b | _,_=>true)=true):putF (skipF F d) d' y=skipF (putF F d' y) d:=after_comm none (some y) h
theorem run_over {N base:Nat} {qs ids:List Nat} {d:Option Nat} {f:Nat} {args:List Opd} {cg:AOper} (hcg:cg.op=.call d f args) (hcd:cg.dst=d):∀ (R:List (AOper × Nat)) (F F1:Fr) (H H1:List Ob),
  (∀ r ∈ R,commB r.1 cg=true∧freeV qs r.1=true∧r.1.dst=dstA r.1.op∧∀ q ∈ qs,offS r.1.dst [q]=true)→Run P G N base R (F,H) (F1,H1)→(∀ i ∈ ids,∀ cs,H[i]? = some (.var cs)→coverQ qs F i) →
  H1=H∧evA F1 args=evA F args∧∀ (x:AV) (H2:List Ob),(∀ i o,i ∉ ids→H[i]? = some o→H2[i]? = some o)→Run P G N base R (putF F d x,H2) (putF F1 d x,H2)
 | [],F,F1,H,H1,_,hr,_=>by
  cases hr
  exact ⟨rfl,rfl,fun x H2 _=>rfl⟩
 | o :: R,F,F1,H,H1,hc,hr,hids=>by
  obtain ⟨⟨F',H'⟩,hs,hr'⟩:=hr
  obtain ⟨c1,c2,c3,c4⟩:=hc o (by simp)
  unfold commB at c1
  simp only [Bool.and_eq_true] at c1
  obtain ⟨⟨⟨⟨⟨⟨k1,k2⟩,k3⟩,_⟩,_⟩,_⟩,_⟩:=c1
  obtain ⟨hch,hh⟩:=freeV_quiet c2
  rw [hcd] at k2 k3
  have hargs:∀ {F2:Fr},Agree (looks cg) F F2→evA F2 args=evA F args:=fun ha=>agree_evA (agree_sub ha (fun t ht=>by simp [looks,hcg,slots,ht]))
  have hH:H'=H:=by
   rcases hs with ⟨_,x,H3,hp,he⟩ | ⟨_,_,he⟩
   ·cases he; exact hp.same hch
   ·cases he; rfl
  subst hH
  have hcov:∀ i ∈ ids,∀ cs,H'[i]? = some (.var cs)→coverQ qs F' i:=fun i hi cs hics=>by
   obtain ⟨q,hqm,off,hf⟩:=hids i hi cs hics
   refine ⟨q,hqm,off,?_⟩
   have hoff:=c4 q hqm
   rcases hs with ⟨_,x,H3,hp,he⟩ | ⟨_,_,he⟩
   ·cases he
    rw [← hf]; exact putF_agree hoff q (by simp)
   ·cases he
    rw [← hf]; exact skipF_agree hoff q (by simp)
  obtain ⟨i1,i2,i3⟩:=run_over hcg hcd R F' F1 H' H1 (fun r hr=>hc r (by simp [hr])) hr' hcov
  have hag:Agree (looks cg) F F':=by
   rcases hs with ⟨_,x,H3,hp,he⟩ | ⟨_,_,he⟩
   ·cases he; exact putF_agree k1
   ·cases he; exact skipF_agree k1
  refine ⟨i1,i2.trans (hargs hag),fun x H2 hkeep=>⟨(putF F' d x,H2),?_,i3 x H2 hkeep⟩⟩
  have hlo:Agree (looks o.1) F (putF F d x):=putF_agree k2
  have hkv:KeepV o.1.op F H' H2:=by
   unfold KeepV
   split
   ·rename_i d0 ag sz y ps hop
    have hps:(qs.all fun q=>ps.any fun p=>match p with | .t n=>n == q | _=>false)=true:=by
     unfold freeV freeB at c2
     rw [hop] at c2
     simp only [isVar,Bool.false_or,Bool.and_eq_true] at c2
     exact c2.2
    intro id cs hid hfar
    refine hkeep id _ (fun hm=>?_) hid
    obtain ⟨q,hqm,off,hf⟩:=hids id hm cs hid
    obtain ⟨p,hp1,hp2⟩:=List.any_eq_true.1 (List.all_eq_true.1 hps q hqm)
    have hfp:=List.all_eq_true.1 hfar p hp1
    cases p with
    | t n=>
     have:n=q:=beq_iff_eq.1 hp2
     subst this
     simp only [opd,hf] at hfp
     simp at hfp
    | k z=>cases hp2
   ·trivial
  rcases hs with ⟨hon,y,H3,hp,he⟩ | ⟨hoff,hnv,he⟩
  ·cases he
   refine .inl ⟨gOn_agree (agree_sub hlo (fun t ht=>by simp [looks,ht])) hon,y,_,Perf.move hp (agree_sub hlo (fun t ht=>by simp [looks,ht])) (fun h=>by rcases h with h | h<;>simp_all) hkv st_slots,?_⟩
   rw [hch]
   simp only [cond_false]
   rw [putF_comm k3]
  ·cases he
   refine .inr ⟨gOff_agree (agree_sub hlo (fun t ht=>by simp [looks,ht])) hoff,hnv,?_⟩
   rw [skip_put_comm k3]
theorem run_app {N base:Nat}:∀ (A B:List (AOper × Nat)) (S S1 S2:Fr × List Ob),Run P G N base A S S1→Run P G N base B S1 S2→Run P G N base (A++B) S S2
 | [],B,S,S1,S2,h,h'=>by cases h; exact h'
 | o :: A,B,S,S1,S2,⟨S0,h1,h2⟩,h'=>⟨S0,h1,run_app A B S0 S1 S2 h2 h'⟩
theorem pick_range (T:List (AOper × Nat)):∀ (n:Nat),n≤T.length→pickT T (List.range n)=T.take n
 | 0,_=>by simp [pickT]
 | n + 1,h=>by
  rw [List.range_succ,pickT_app,pick_range T n (by omega),List.take_add_one]
  have:T[n]? = some T[n]:=List.getElem?_eq_getElem (by omega)
  simp [pickT,this]
set_option maxHeartbeats 2000000 in
theorem schedC {N : Nat} {dp : Dp} {ops : Array Oper} {pre post : List AOper} {cg : AOper} {d : Option Nat} {f : Nat} {args : List Opd} (hal : compOps P N dp ops ops.toList = some (pre ++ cg :: post)) (hB : drawB ops (pre ++ cg :: post) = true) {qs fr : List Nat} (hC : callB ops qs fr pre cg post = true)
    (hcg : cg.op = .call d f args) {w0 : World} (hG : G.inv w0) {ds : List Deferred} {c0 : Cx} {H0 : List Ob} {base : Nat} {Q : Exit → Act → World → Prop} {Kf : Fr → List Ob → Prop} (hQp : ∀ ch a' w', PanAt G w0 ds c0 H0 ch a' w' → Q (.panic ch) a' w')
    (hQ : ∀ c F H a, Mid w0 N ds c0 H0 base c F H a → Kf F H → Q .normal a c.w) {F1 : Fr} {H1 : List Ob} (hbl : base = c0.k) (hkd : ∀ o ∈ pre ++ cg :: post, ∀ t, o.dst = some t → G.keep t = none)
    (hX : XCall P G base qs d f args F1 H1 (fun F2 H2 => ∃ Sf, Run P G N base (pickT (tags 0 (pre ++ cg :: post)) ((List.range ops.size).filter (inQ pre.length fr))) (F2, H2) Sf ∧ Kf Sf.1 Sf.2)) :
    ∀ (fuel : Nat) (listed : Array Bool) (c : Cx) (F : Fr) (H : List Ob) (a : Act) (R : List Nat), listed.size = ops.size → (rem ops.size listed).length = fuel → Closed ops listed → Mid w0 N ds c0 H0 base c F H a → KeepF G.keep F → Pend c H base (pickT (tags 0 (pre ++ cg :: post)) (rem ops.size listed)) →
      listed.getD pre.length true = false → R = (List.range ops.size).filter (fun k => inP pre.length fr k && !listed.getD k true) → Run P G N base (pickT (tags 0 (pre ++ cg :: post)) R) (F, H) (F1, H1) → wpAny P .any ops Q fuel listed a c.w := by
  obtain ⟨hlen, hat⟩ := compOps_at _ _ hal
  have hlen' : ops.size = (pre ++ cg :: post).length := by simpa using hlen
  have hn : ops.size = pre.length + 1 + post.length := by rw [hlen']; simp; omega
  have hB0 := hB
  simp only [drawB, Bool.and_eq_true] at hB
  obtain ⟨⟨hB1, hB2⟩, hB3⟩ := hB
  simp only [callB, Bool.and_eq_true] at hC
  obtain ⟨⟨⟨⟨⟨⟨hC1, hC2⟩, hC3⟩, hC4⟩, hC5⟩, hC6⟩, hC7⟩ := hC
  have hgood : GoodM ops (masks [] ops.toList) := masks_good ops.toList [] (fun j => by simp) (fun i m h => by simp at h)
  have hgd : ∀ {listed : Array Bool} {i k : Nat}, Closed ops listed → Deps ops listed i → ((masks [] ops.toList).getD i 0).testBit k = true → listed.getD k false = true := fun {listed i k} hcl hd hb => by
    cases hmi : (masks [] ops.toList)[i]? with
    | none => rw [List.getD_eq_getElem?_getD, hmi] at hb; simp at hb
    | some m =>
      rw [List.getD_eq_getElem?_getD, hmi] at hb
      exact hgood i m hmi k hb listed hcl hd
  have hready_un : ∀ {listed : Array Bool} {i : Nat}, i ∈ Region.ready .any ops listed → listed.getD i true = false ∧ Deps ops listed i ∧ i < ops.size := fun {listed i} h => by
    obtain ⟨h1, o, h2, h3⟩ := mem_ready.1 h
    refine ⟨h1, fun o' ho' e he hb => ?_, (Array.getElem?_eq_some_iff.1 h2).1⟩
    rw [h2] at ho'; cases ho'
    exact h3 e he hb
  have hcd : cg.dst = d := by
    have := beq_iff_eq.1 (List.all_eq_true.1 hB2 cg (by simp))
    rw [this, hcg]; rfl
  have hpat : ∀ k, pre.length < k → k < ops.size → ∃ ak, (pre ++ cg :: post)[k]? = some ak ∧ (ak, k) ∈ post.zipIdx (pre.length + 1) := fun k hk hkn => by
    have hkp : k - (pre.length + 1) < post.length := by omega
    refine ⟨post[k - (pre.length + 1)], ?_, ?_⟩
    · rw [List.getElem?_append_right (by omega), show k - pre.length = (k - (pre.length + 1)) + 1 by omega, List.getElem?_cons_succ]
      exact List.getElem?_eq_getElem hkp
    · rw [List.mem_zipIdx_iff_le_and_getElem?_sub]
      exact ⟨by omega, List.getElem?_eq_getElem hkp⟩
  have hfrl : ∀ k, fr.contains k = true → pre.length < k := fun k hk => of_decide_eq_true (List.all_eq_true.1 hC7 k (List.contains_iff_mem.1 hk))
  have hinP : ∀ k, inP pre.length fr k = true → k ≠ pre.length := fun k hk e => by
    unfold inP at hk
    rw [Bool.or_eq_true, decide_eq_true_iff] at hk
    rcases hk with hk | hk
    · omega
    · have := hfrl k hk; omega
  have hlate : ∀ k, pre.length < k → k < ops.size → fr.contains k = false → ((masks [] ops.toList).getD k 0).testBit pre.length = true := fun k hk hkn hf => by
    obtain ⟨ak, h1, h2⟩ := hpat k hk hkn
    have := List.all_eq_true.1 hC4 (ak, k) h2
    simp only [hf, cond_false, Bool.and_eq_true] at this
    exact this.1
  have hearly : ∀ k, k < ops.size → fr.contains k = true → ∃ ak, (pre ++ cg :: post)[k]? = some ak ∧ freeV qs ak = true ∧ ((masks [] ops.toList).getD k 0).testBit pre.length = false := fun k hkn hf => by
    obtain ⟨ak, h1, h2⟩ := hpat k (hfrl k hf) hkn
    have := List.all_eq_true.1 hC4 (ak, k) h2
    simp only [hf, cond_true, Bool.and_eq_true, Bool.not_eq_true'] at this
    exact ⟨ak, h1, this.1, this.2⟩
  intro fuel
  induction fuel with
  | zero =>
    intro listed c F H a R hz hf hcl hm hkf hp hun hR hr
    exfalso
    have hL : rem ops.size listed = [] := List.eq_nil_of_length_eq_zero hf
    have : pre.length ∈ rem ops.size listed := List.mem_filter.2 ⟨List.mem_range.2 (by omega), by rw [hun]; rfl⟩
    rw [hL] at this; cases this
  | succ fuel ih =>
    intro listed c F H a R hz hf hcl hm hkf hp hunc hR hr
    have hpost : ∀ k, k < ops.size → inQ pre.length fr k = true → listed.getD k false = false := fun k hkn hk => by
      unfold inQ inP at hk
      simp only [Bool.and_eq_true, Bool.not_eq_true', Bool.or_eq_false_iff, decide_eq_false_iff_not, bne_iff_ne] at hk
      cases hq : listed.getD k false with
      | false => rfl
      | true =>
        exfalso
        have := hgd hcl (hcl k hq) (hlate k (by omega) hkn hk.1.2)
        rw [← getD_tf (by omega), hunc] at this; cases this
    refine ⟨fun hnone => ?_, fun i hi => ?_⟩
    · exfalso
      have hex : ∃ i, i < ops.size ∧ listed.getD i true = false ∧ ∀ k, k < i → listed.getD k true = true := by
        obtain ⟨i, h1, h2⟩ := least (fun i => i < ops.size ∧ listed.getD i true = false) ⟨pre.length, by omega, hunc⟩
        refine ⟨i, h1.1, h1.2, fun k hk => ?_⟩
        cases hq : listed.getD k true with
        | true => rfl
        | false => have := h2 k ⟨by omega, hq⟩; omega
      obtain ⟨i, hin, hun, hbef⟩ := hex
      have hready : i ∈ Region.ready .any ops listed := by
        refine mem_ready.2 ⟨hun, ops[i], Array.getElem?_eq_getElem hin, fun e he hb => ?_⟩
        have h3 := List.all_eq_true.1 hB1 (ops[i], i) (by
          rw [List.mem_zipIdx_iff_getElem?]
          simp [hin])
        have h4 := List.all_eq_true.1 h3 e (Array.mem_toList_iff.2 he)
        rw [hb] at h4
        have hlt : e.on < i := by simpa using h4
        rw [← getD_tf (by omega)]
        exact hbef e.on hlt
      rw [hnone] at hready; cases hready
    · obtain ⟨hun, hdeps, hin⟩ := hready_un hi
      obtain ⟨l1, l2, e1, e2, e3, e4⟩ := rem_split hin hun hz
      have hoi : ops[i]? = some ops[i] := Array.getElem?_eq_getElem hin
      obtain ⟨ao, ha1, ha2⟩ := hat i ops[i] (by simp [hin])
      obtain ⟨t, ht1, ht2⟩ := tags_get (pre ++ cg :: post) 0 i ao ha1
      have hcomm2 : ∀ (k i : Nat) (ak ai : AOper), k < i → (pre ++ cg :: post)[k]? = some ak → (pre ++ cg :: post)[i]? = some ai → ((masks [] ops.toList).getD i 0).testBit k = false → commB ak ai = true := fun k i ak ai hki hak hai hms => by
        have h3 := List.all_eq_true.1 (List.all_eq_true.1 hB3 (ai, i) (by rw [List.mem_zipIdx_iff_getElem?]; exact hai)) (ak, k) (by rw [List.mem_zipIdx_iff_getElem?]; exact hak)
        simp only [Bool.or_eq_true, Bool.not_eq_true', decide_eq_false_iff_not] at h3
        rcases h3 with (h3 | h3) | h3
        · exact absurd hki h3
        · rw [hms] at h3; cases h3
        · exact h3
      have hcomm : ∀ (k : Nat), k < i → listed.getD k true = false → ∀ (ak : AOper), (pre ++ cg :: post)[k]? = some ak → commB ak ao = true := fun k hki hku ak hak => by
        refine hcomm2 k i ak ao hki hak ha1 ?_
        cases hq : ((masks [] ops.toList).getD i 0).testBit k with
        | false => rfl
        | true =>
          have := hgd hcl hdeps hq
          rw [← getD_tf (by omega), hku] at this; cases this
      have hclosed : Closed ops (listed.setIfInBounds i true) := by
        intro k hk o ho e he hb
        by_cases hik : i = k
        · subst hik
          exact getD_set_true (hdeps o ho e he hb)
        · rw [getD_set_ne false hik] at hk
          exact getD_set_true (hcl k hk o ho e he hb)
      have hcase : i = pre.length ∨ inP pre.length fr i = true := by
        by_cases h1 : i = pre.length
        · exact .inl h1
        · right
          cases h2 : inP pre.length fr i with
          | true => rfl
          | false =>
            exfalso
            have hq : inQ pre.length fr i = true := by unfold inQ; rw [h2]; simpa using h1
            unfold inP at h2
            simp only [Bool.or_eq_false_iff, decide_eq_false_iff_not] at h2
            have := hgd hcl hdeps (hlate i (by omega) hin h2.2)
            rw [← getD_tf (by omega), hunc] at this; cases this
      have hda : ao.dst = dstA ao.op := beq_iff_eq.1 (List.all_eq_true.1 hB2 ao (List.mem_of_getElem? ha1))
      have hset : ∀ k, k ≠ i → (listed.setIfInBounds i true).getD k true = listed.getD k true := fun k hk => by
        rw [Array.getD_eq_getD_getElem?, Array.getD_eq_getD_getElem?, Array.getElem?_setIfInBounds_ne (Ne.symm hk)]
      have hseti : (listed.setIfInBounds i true).getD i true = true := by
        rw [Array.getD_eq_getD_getElem?]
        have : i < listed.size := by omega
        simp [this]
      rcases hcase with hic | hip
      · 
        subst hic
        have hao : ao = cg := by
          rw [List.getElem?_append_right (Nat.le_refl _)] at ha1
          simpa using ha1.symm
        subst hao
        have hRmem : ∀ k ∈ R, k < ops.size ∧ inP pre.length fr k = true ∧ listed.getD k true = false := fun k hk => by
          rw [hR] at hk
          obtain ⟨h1, h2⟩ := List.mem_filter.1 hk
          rw [Bool.and_eq_true] at h2
          exact ⟨List.mem_range.1 h1, h2.1, by simpa using h2.2⟩
        have hRprop : ∀ r ∈ pickT (tags 0 (pre ++ ao :: post)) R, commB r.1 ao = true ∧ freeV qs r.1 = true ∧ r.1.dst = dstA r.1.op ∧ ∀ q ∈ qs, offS r.1.dst [q] = true := fun r hr => by
          obtain ⟨k, hk, hkx⟩ := mem_pick hr
          obtain ⟨h1, h1', h2⟩ := hRmem k hk
          have hkal : (pre ++ ao :: post)[k]? = some (pre ++ ao :: post)[k] := List.getElem?_eq_getElem (by rw [← hlen']; exact h1)
          obtain ⟨t', ht', _⟩ := tags_get (pre ++ ao :: post) 0 k _ hkal
          rw [ht'] at hkx
          cases hkx
          have hmem := List.mem_of_getElem? hkal
          refine ⟨?_, ?_, beq_iff_eq.1 (List.all_eq_true.1 hB2 _ hmem), fun q hq => List.all_eq_true.1 (List.all_eq_true.1 hC5 _ hmem) q hq⟩
          · rcases Nat.lt_trichotomy k pre.length with h3 | h3 | h3
            · exact hcomm k h3 h2 _ hkal
            · exact absurd h3 (hinP k h1')
            · have hfk : fr.contains k = true := by
                unfold inP at h1'
                rw [Bool.or_eq_true, decide_eq_true_iff] at h1'
                exact h1'.resolve_left (by omega)
              obtain ⟨ak, g1, g2, g3⟩ := hearly k h1 hfk
              rw [hkal] at g1; cases g1
              exact commB_symm (hcomm2 pre.length k ao _ h3 (by rw [List.getElem?_append_right (Nat.le_refl _)]; simp) hkal g3)
          · by_cases h3 : k < pre.length
            · have hkp : (pre ++ ao :: post)[k] = pre[k] := by rw [List.getElem_append_left h3]
              have h4 := List.all_eq_true.1 hC3 (pre[k], k) (by rw [List.mem_zipIdx_iff_getElem?]; exact List.getElem?_eq_getElem h3)
              rw [Bool.or_eq_true] at h4
              rcases h4 with h4 | h4
              · have := hgd hcl hdeps h4
                rw [← getD_tf (by omega), h2] at this; cases this
              · show freeV qs (pre ++ ao :: post)[k] = true
                rw [hkp]; exact h4
            · have hfk : fr.contains k = true := by
                unfold inP at h1'
                rw [Bool.or_eq_true, decide_eq_true_iff] at h1'
                exact h1'.resolve_left h3
              obtain ⟨ak, g1, g2, g3⟩ := hearly k h1 hfk
              rw [hkal] at g1; cases g1
              exact g2
        obtain ⟨xs, ids, x1, x2, x3, x4⟩ := hX
        have hFq : ∀ q ∈ qs, F1 q = F q := fun q hq => by
          have : ∀ (R : List (AOper × Nat)) (S S' : Fr × List Ob), (∀ r ∈ R, ∀ q ∈ qs, offS r.1.dst [q] = true) → Run P G N base R S S' → S'.1 q = S.1 q := by
            intro R
            induction R with
            | nil => intro S S' _ h; cases h; rfl
            | cons r R ih =>
              intro S S' hh ⟨S0, h1, h2⟩
              rw [ih S0 S' (fun r hr => hh r (by simp [hr])) h2]
              have := hh r (by simp) q hq
              rcases h1 with ⟨_, x, H3, hp, he⟩ | ⟨_, _, he⟩
              · rw [he]; exact putF_agree this q (by simp)
              · rw [he]; exact skipF_agree this q (by simp)
          exact this _ (F, H) (F1, H1) (fun r hr => (hRprop r hr).2.2.2) hr
        have hHH : H1 = H := by
          have : ∀ (R : List (AOper × Nat)) (S S' : Fr × List Ob), (∀ r ∈ R, freeV qs r.1 = true) → Run P G N base R S S' → S'.2 = S.2 := by
            intro R
            induction R with
            | nil => intro S S' _ h; cases h; rfl
            | cons r R ih =>
              intro S S' hh ⟨S0, h1, h2⟩
              rw [ih S0 S' (fun r hr => hh r (by simp [hr])) h2]
              have hch := (freeV_quiet (hh r (by simp))).1
              rcases h1 with ⟨_, x, H3, hp, he⟩ | ⟨_, _, he⟩
              · rw [he]; exact hp.same hch
              · rw [he]
          exact this _ (F, H) (F1, H1) (fun r hr => (hRprop r hr).2.1) hr
        subst hHH
        obtain ⟨i1, i2, i3⟩ := run_over (P := P) (G := G) (N := N) (base := base) (qs := qs) (ids := ids) hcg hcd _ F F1 H1 H1 hRprop hr (fun i hi cs hics => by
          obtain ⟨q, hq, off, h⟩ := x3 i hi cs hics
          exact ⟨q, hq, off, by rw [← hFq q hq]; exact h⟩)
        rw [i2] at x1
        obtain ⟨g, op0, hg, hop0, hdst, hao⟩ := compOper_inv ha2
        have hop : compOp P N ops[pre.length] = some (.call d f args) := by
          rw [hao] at hcg
          exact deepen_is hcg (fun _ _ _ _ _ => AOp.noConfusion) (fun _ _ _ _ => AOp.noConfusion) (fun _ _ _ _ _ => AOp.noConfusion) ▸ hop0
        have hod : ops[pre.length].dst = d := by rw [hao] at hcd; exact hcd
        have hgn : g = none := by
          rw [hao] at hC1
          simpa using hC1
        have hw : Region.wanted ops[pre.length] (yielded ops a.tmps) = true := by
          rw [hgn] at hg
          rcases guard_ok hm.rf hg (show guardP none F True False from trivial) with ⟨h, _⟩ | ⟨_, h⟩
          · exact h
          · exact h.elim
        have hdN : ∀ t, d = some t → t < N := fun t ht => hdst t (by rw [hod]; exact ht)
        have hsc : SCall P G N d f args F H1 (fun F2 H2 => ∃ x, F2 = putF F d x ∧ (∀ i o, i ∉ ids → H1[i]? = some o → H2[i]? = some o) ∧ ∃ Sf, Run P G N base (pickT (tags 0 (pre ++ ao :: post)) ((List.range ops.size).filter (inQ pre.length fr))) (putF F1 d x, H2) Sf ∧ Kf Sf.1 Sf.2) :=
          SCall.ofAC hdN x1 x4 (fun x H2 ⟨h1, h2⟩ => ⟨x, rfl, h1, h2⟩) hkf
        have hwp := compOp_ok (G := G) hop w0 ds c a F H1 _ Q hG hm.st hm.rf hm.size hm.defers (fun ch a' w' h => hQp _ _ _ (h.trans hm.step)) hsc
        unfold wpOp
        rw [hoi]
        simp only
        rw [if_pos hw]
        left
        refine Oper.wp_mono (fun a' w' hfin => ?_) hwp
        obtain ⟨c', F', H', rfl, q2, q3, q4, q5, q6, x, rfl, hkeep, Sf, hrp, hKf⟩ := hfin.ex
        have hrem : rem ops.size (listed.setIfInBounds pre.length true) = (List.range ops.size).filter (fun k => (inP pre.length fr k && !listed.getD k true) || inQ pre.length fr k) := by
          unfold rem
          refine List.filter_congr (fun k hk => ?_)
          have hkn := List.mem_range.1 hk
          by_cases hkc : k = pre.length
          · subst hkc
            have h1 : inP pre.length fr pre.length = false := by
              cases hq : inP pre.length fr pre.length with
              | false => rfl
              | true => exact absurd rfl (hinP _ hq)
            simp [hseti, h1, inQ]
          · rw [hset k hkc]
            cases hq : inP pre.length fr k with
            | true => simp [inQ, hq]
            | false =>
              have hiq : inQ pre.length fr k = true := by unfold inQ; rw [hq]; simpa using hkc
              have := hpost k hkn hiq
              rw [← getD_tf (by omega)] at this
              simp [hiq, this]
        have hfin := run_app _ _ _ _ _ (i3 x H' hkeep) hrp
        rw [hR] at hfin
        have hmrg := run_merge (P := P) (G := G) (N := N) (base := base) (T := tags 0 (pre ++ ao :: post)) (p1 := fun k => inP pre.length fr k && !listed.getD k true) (p2 := inQ pre.length fr) (fun k hk => by
          rw [Bool.and_eq_true] at hk
          unfold inQ; rw [hk.1]; rfl) (List.range ops.size) _ _ (fun k hk => by rw [tags_len, ← hlen']; exact List.mem_range.1 hk) (by
            refine List.Pairwise.imp_of_mem ?_ (List.pairwise_lt_range (n := ops.size))
            intro a b ha hb hab h2 h1 ta tb hta htb
            have han := List.mem_range.1 ha
            have hbn := List.mem_range.1 hb
            rw [Bool.and_eq_true] at h1
            have h2' := h2
            unfold inQ at h2'
            simp only [Bool.and_eq_true, Bool.not_eq_true', bne_iff_ne] at h2'
            unfold inP at h2'
            simp only [Bool.or_eq_false_iff, decide_eq_false_iff_not] at h2'
            have hac : pre.length < a := by omega
            have hfb : fr.contains b = true := by
              have := h1.1
              unfold inP at this
              rw [Bool.or_eq_true, decide_eq_true_iff] at this
              exact this.resolve_left (by omega)
            obtain ⟨aa, ga1, ga2⟩ := hpat a hac han
            obtain ⟨ab, gb1, gb2⟩ := hpat b (by omega) hbn
            obtain ⟨t1, hta', _⟩ := tags_get (pre ++ ao :: post) 0 a aa ga1
            obtain ⟨t2, htb', _⟩ := tags_get (pre ++ ao :: post) 0 b ab gb1
            rw [hta'] at hta; cases hta
            rw [htb'] at htb; cases htb
            have h6 := List.all_eq_true.1 (List.all_eq_true.1 hC6 (aa, a) ga2) (ab, b) gb2
            simp only [h2'.1.2, hfb, Bool.false_or, Bool.not_true, Bool.not_eq_true'] at h6
            exact commB_symm (hcomm2 a b aa ab hab ga1 gb1 h6)) hfin
        refine sched (Sf := Sf) hal hB0 hG hQp (fun c2 a2 hm2 => hQ c2 Sf.1 Sf.2 a2 hm2 hKf) fuel (listed.setIfInBounds pre.length true) c' (putF F d x) H' a' (by simpa using hz) ?_ hclosed ⟨hm.step.trans q2, q3, q4, q5, q6, hm.base⟩ ?_ ?_
        · rw [e2]
          rw [e1] at hf
          simp only [List.length_append, List.length_cons] at hf ⊢
          omega
        · rw [e2, pickT_app]
          intro o' j' hoj d' zs hv
          obtain ⟨p1, p2⟩ := hp o' j' (by
            rw [e1, pickT_app]
            have hx1 : pickT (tags 0 (pre ++ ao :: post)) (pre.length :: l2) = (ao, t) :: pickT (tags 0 (pre ++ ao :: post)) l2 := by simp [pickT, ht1]
            rw [hx1]
            simp only [List.mem_append, List.mem_cons] at hoj ⊢
            rcases hoj with h | h
            · exact .inl h
            · exact .inr (.inr h)) d' zs hv
          have hlt2 : base + j' < c.k := by rw [hm.st.k]; exact (List.getElem?_eq_some_iff.1 p1).1
          exact ⟨hkeep _ _ (fun h => by have := x2 _ h; omega) p1, fun hb => p2 (q2.nb _ hlt2 hb)⟩
        · rw [hrem]; exact hmrg
      · 
        have hRs : R = l1.filter (inP pre.length fr) ++ i :: l2.filter (inP pre.length fr) ∧ (List.range ops.size).filter (fun k => inP pre.length fr k && !(listed.setIfInBounds i true).getD k true) = l1.filter (inP pre.length fr) ++ l2.filter (inP pre.length fr) := by
          have h1 : (rem ops.size listed).filter (inP pre.length fr) = R := by
            rw [hR]
            unfold rem
            rw [List.filter_filter]
          have h2 : (rem ops.size (listed.setIfInBounds i true)).filter (inP pre.length fr) = (List.range ops.size).filter (fun k => inP pre.length fr k && !(listed.setIfInBounds i true).getD k true) := by
            unfold rem
            rw [List.filter_filter]
          rw [e1, List.filter_append, List.filter_cons, if_pos hip] at h1
          rw [e2, List.filter_append] at h2
          exact ⟨h1.symm, h2.symm⟩
        have hpick : pickT (tags 0 (pre ++ cg :: post)) R = pickT (tags 0 (pre ++ cg :: post)) (l1.filter (inP pre.length fr)) ++ (ao, t) :: pickT (tags 0 (pre ++ cg :: post)) (l2.filter (inP pre.length fr)) := by
          rw [hRs.1, pickT_app]
          congr 1
          simp [pickT, ht1]
        have hpickp : pickT (tags 0 (pre ++ cg :: post)) (rem ops.size listed) = pickT (tags 0 (pre ++ cg :: post)) l1 ++ (ao, t) :: pickT (tags 0 (pre ++ cg :: post)) l2 := by
          rw [e1, pickT_app]
          congr 1
          simp [pickT, ht1]
        rw [hpick] at hr
        rw [hpickp] at hp
        have hcm : ∀ x ∈ pickT (tags 0 (pre ++ cg :: post)) (l1.filter (inP pre.length fr)), commB x.1 ao = true := fun x hx => by
          obtain ⟨k, hk, hkx⟩ := mem_pick hx
          obtain ⟨hki, hku⟩ := e3 k (List.mem_filter.1 hk).1
          have hkal : k < (pre ++ cg :: post).length := by have := (List.getElem?_eq_some_iff.1 hkx).1; rwa [tags_len] at this
          obtain ⟨t', ht', _⟩ := tags_get (pre ++ cg :: post) 0 k (pre ++ cg :: post)[k] (List.getElem?_eq_getElem hkal)
          rw [ht'] at hkx
          cases hkx
          exact hcomm k hki hku _ (List.getElem?_eq_getElem hkal)
        obtain ⟨S1, hs1, hr1⟩ := run_first _ _ (F, H) (F1, H1) hcm hr
        obtain ⟨F2, H2⟩ := S1
        have hkf2 : KeepF G.keep F2 := by
          have hdk := hkd ao (List.mem_of_getElem? ha1)
          intro t' x' hx'
          have hne : ∀ t0, ao.dst = some t0 → t' ≠ t0 := fun t0 h0 e => by
            subst e
            rw [hdk _ h0] at hx'; cases hx'
          rcases hs1 with ⟨_, y, H3, _, he⟩ | ⟨_, _, he⟩
          · cases he
            cases hd : ao.dst with
            | none => exact hkf t' x' hx'
            | some t0 => simp only [putF, upd]; rw [if_neg (hne t0 hd)]; exact hkf t' x' hx'
          · cases he
            cases hd : ao.dst with
            | none => exact hkf t' x' hx'
            | some t0 => simp only [skipF, upd]; rw [if_neg (hne t0 hd)]; exact hkf t' x' hx'
        have hpend : Pend c H base ((ao, t) :: (pickT (tags 0 (pre ++ cg :: post)) l1 ++ pickT (tags 0 (pre ++ cg :: post)) l2)) := fun o j hj => hp o j (by
          simp only [List.mem_cons, List.mem_append] at hj ⊢
          rcases hj with h | h | h
          · exact .inr (.inl h)
          · exact .inl h
          · exact .inr (.inr h))
        have hdisj : isVar ao.op = true → ∀ o' j', (o', j') ∈ pickT (tags 0 (pre ++ cg :: post)) l1 ++ pickT (tags 0 (pre ++ cg :: post)) l2 → isVar o'.op = true → j' ≠ t := fun hv o' j' hmem hv' => by
          rw [← pickT_app] at hmem
          obtain ⟨k, hk, hkx⟩ := mem_pick hmem
          rcases List.mem_append.1 hk with hk | hk
          · have := tags_inc (pre ++ cg :: post) 0 k i o' ao j' t hkx ht1 (e3 k hk).1 hv'
            omega
          · have := tags_inc (pre ++ cg :: post) 0 i k ao o' t j' ht1 hkx (e4 k hk).1 hv
            omega
        have key := stp_ok (Q := Q) (K := wpAny P .any ops Q fuel (listed.setIfInBounds i true)) hG (ops := ops) ha2 hda hdisj hm hpend hs1 hQp (fun c' a' hm' hp' => by
          refine ih (listed.setIfInBounds i true) c' F2 H2 a' (l1.filter (inP pre.length fr) ++ l2.filter (inP pre.length fr)) (by simpa using hz) ?_ hclosed hm' hkf2 ?_ ?_ hRs.2.symm ?_
          · rw [e2]
            rw [e1] at hf
            simp only [List.length_append, List.length_cons] at hf ⊢
            omega
          · rw [e2, pickT_app]; exact hp'
          · rw [hset _ (fun e => hinP i hip e.symm)]; exact hunc
          · rw [pickT_app]; exact hr1)
        unfold wpOp
        rw [hoi]
        simp only
        split
        · rename_i hw; rw [if_pos hw] at key; exact .inl key
        · rename_i hw; rw [if_neg hw] at key; exact key
theorem AW.drawc {N : Nat} {dp : Dp} {id : Nat} {ops : Array Oper} {pre post : List AOper} {cg : AOper} {d : Option Nat} {f : Nat} {args : List Opd} {qs fr : List Nat} (hmix : P.follows .mixedOrders = true) (hal : compOps P N dp ops ops.toList = some (pre ++ cg :: post)) (hB : drawB ops (pre ++ cg :: post) = true)
    (hC : callB ops qs fr pre cg post = true) (hcg : cg.op = .call d f args) {Q : Exit → Fr → List Ob → Prop} {F : Fr} {H : List Ob} (hkf : KeepF G.keep F) (hkd : ∀ o ∈ pre ++ cg :: post, ∀ t, o.dst = some t → G.keep t = none)
    (h : awpD P G N H.length 0 (keepL (inP pre.length fr) 0 (pre ++ cg :: post)) (fun F1 H1 => XCall P G H.length qs d f args F1 H1 (fun F2 H2 => awpD P G N H.length (varsOf (keepL (inP pre.length fr) 0 (pre ++ cg :: post))).length (keepL (inQ pre.length fr) 0 (pre ++ cg :: post)) (Q .normal) F2 H2)) F
      (H ++ varsOf (keepL (inP pre.length fr) 0 (pre ++ cg :: post) ++ keepL (inQ pre.length fr) 0 (pre ++ cg :: post)))) : AW P G N (.region id ops true) Q F H := by
  intro w0 ds c a hG hS hF hN hds
  have hdst : ∀ o ∈ pre ++ cg :: post, o.dst = dstA o.op := by
    simp only [drawB, Bool.and_eq_true] at hB
    exact fun o ho => beq_iff_eq.1 (List.all_eq_true.1 hB.1.2 o ho)
  obtain ⟨hlen, _⟩ := compOps_at _ _ hal
  have hlen' : ops.size = (pre ++ cg :: post).length := by simpa using hlen
  have hCC := hC
  simp only [callB, Bool.and_eq_true] at hCC
  obtain ⟨⟨⟨⟨⟨⟨_, _⟩, _⟩, hC4⟩, _⟩, _⟩, hC7⟩ := hCC
  have hnv : ∀ k o, (pre ++ cg :: post)[k]? = some o → inP pre.length fr k = false → isVar o.op = false := fun k o hk hp => by
    unfold inP at hp
    simp only [Bool.or_eq_false_iff, decide_eq_false_iff_not] at hp
    by_cases hkc : k = pre.length
    · subst hkc
      rw [List.getElem?_append_right (Nat.le_refl _)] at hk
      simp at hk
      subst hk
      rw [hcg]; rfl
    · have hkn := (List.getElem?_eq_some_iff.1 hk).1
      have hz : (o, k) ∈ post.zipIdx (pre.length + 1) := by
        rw [List.mem_zipIdx_iff_le_and_getElem?_sub]
        refine ⟨by omega, ?_⟩
        rw [List.getElem?_append_right (by omega), show k - pre.length = (k - (pre.length + 1)) + 1 by omega, List.getElem?_cons_succ] at hk
        exact hk
      have := List.all_eq_true.1 hC4 (o, k) hz
      simp only [hp.2, cond_false, Bool.and_eq_true, Bool.not_eq_true'] at this
      exact this.2
  have hkeepv : ∀ (A : List AOper) (i : Nat), (∀ k o, A[k]? = some o → inP pre.length fr (i + k) = false → isVar o.op = false) → varsOf (keepL (inP pre.length fr) i A) = varsOf A := by
    intro A
    induction A with
    | nil => intro i _; rfl
    | cons o A ih =>
      intro i hh
      have ih' := ih (i + 1) (fun k o' hk hp => hh (k + 1) o' hk (by rw [← hp]; congr 1; omega))
      simp only [keepL]
      cases hp : inP pre.length fr i with
      | true => simp only [cond_true]; rw [varsOf_cons, varsOf_cons o A, ih']
      | false =>
        have h1 := hh 0 o rfl hp
        simp only [cond_false]
        rw [varsOf_cons o A, ih']
        cases hop : o.op <;> first | rfl | (rw [hop] at h1; cases h1)
  have hvp := hkeepv (pre ++ cg :: post) 0 (fun k o hk hp => hnv k o hk (by rw [Nat.zero_add] at hp; exact hp))
  have hvq : varsOf (keepL (inQ pre.length fr) 0 (pre ++ cg :: post)) = [] := by
    have : ∀ A : List AOper, (∀ o ∈ A, isVar o.op = false) → varsOf A = [] := by
      intro A
      induction A with
      | nil => intro _; rfl
      | cons o A ih =>
        intro hh
        rw [varsOf_cons, ih (fun o' h' => hh o' (by simp [h']))]
        have h1 := hh o (by simp)
        cases hop : o.op <;> first | rfl | (rw [hop] at h1; cases h1)
    refine this _ (fun o ho => ?_)
    obtain ⟨k, h1, h2⟩ := keepL_mem ho
    rw [Nat.zero_add] at h2
    unfold inQ at h2
    rw [Bool.and_eq_true, Bool.not_eq_true'] at h2
    exact hnv k o h1 h2.1
  have hvo : varsOf (keepL (inP pre.length fr) 0 (pre ++ cg :: post) ++ keepL (inQ pre.length fr) 0 (pre ++ cg :: post)) = varsOf (pre ++ cg :: post) := by
    have happ : ∀ A B : List AOper, varsOf (A ++ B) = varsOf A ++ varsOf B := by
      intro A
      induction A with
      | nil => intro B; rfl
      | cons o A ih => intro B; rw [List.cons_append, varsOf_cons, varsOf_cons o A, ih, List.append_assoc]
    rw [happ, hvp, hvq, List.append_nil]
  rw [hvo] at h
  have hmemP : ∀ o ∈ keepL (inP pre.length fr) 0 (pre ++ cg :: post), o ∈ pre ++ cg :: post := fun o ho => by
    obtain ⟨k, h1, _⟩ := keepL_mem ho
    exact List.mem_of_getElem? h1
  have hmemQ : ∀ o ∈ keepL (inQ pre.length fr) 0 (pre ++ cg :: post), o ∈ pre ++ cg :: post := fun o ho => by
    obtain ⟨k, h1, _⟩ := keepL_mem ho
    exact List.mem_of_getElem? h1
  obtain ⟨⟨F1, H1⟩, hrun, hK⟩ := run_of (keepL (inP pre.length fr) 0 (pre ++ cg :: post)) 0 _ F _ (fun o ho => hdst o (hmemP o ho)) h
  have hTlen : (tags 0 (pre ++ cg :: post)).length = ops.size := by rw [tags_len, hlen']
  have hpkP : pickT (tags 0 (pre ++ cg :: post)) ((List.range ops.size).filter (inP pre.length fr)) = tags 0 (keepL (inP pre.length fr) 0 (pre ++ cg :: post)) := by
    rw [pick_keep _ _ _ (Nat.le_of_eq hTlen.symm), List.take_of_length_le (Nat.le_of_eq hTlen)]
    exact tags_keep _ _ 0 0 (fun k o hk hp => hnv k o hk (by rw [Nat.zero_add] at hp; exact hp))
  have hpkQ : pickT (tags 0 (pre ++ cg :: post)) ((List.range ops.size).filter (inQ pre.length fr)) = keepL (inQ pre.length fr) 0 (tags 0 (pre ++ cg :: post)) := by
    rw [pick_keep _ _ _ (Nat.le_of_eq hTlen.symm), List.take_of_length_le (Nat.le_of_eq hTlen)]
  have hX : XCall P G H.length qs d f args F1 H1 (fun F2 H2 => ∃ Sf, Run P G N H.length (pickT (tags 0 (pre ++ cg :: post)) ((List.range ops.size).filter (inQ pre.length fr))) (F2, H2) Sf ∧ Q .normal Sf.1 Sf.2) := by
    obtain ⟨xs, ids, x1, x2, x3, x4⟩ := hK
    refine ⟨xs, ids, x1, x2, x3, ?_⟩
    intro w1 c1 vs1 g1 s1 v1
    refine (x4 w1 c1 vs1 g1 s1 v1).mono fun e w' hh => hh.imp (fun ⟨c', u, x, o', p1, p2, p3, p4, p5, p6, p7⟩ => ⟨c', u, x, o', p1, p2, p3, p4, p5, p6, ?_⟩) (fun z => z)
    obtain ⟨Sf, r1, r2⟩ := run_of (keepL (inQ pre.length fr) 0 (pre ++ cg :: post)) _ _ _ _ (fun o ho => hdst o (hmemQ o ho)) p7
    refine ⟨Sf, ?_, r2⟩
    rw [hpkQ]
    refine run_tag _ _ _ _ ?_ (fun x hx => ?_) r1
    · rw [tags_fst, keepL_map, tags_fst]
    · have hxm : x.1 ∈ keepL (inQ pre.length fr) 0 (pre ++ cg :: post) := by
        have := List.mem_map_of_mem (f := (·.1)) hx
        rwa [tags_fst] at this
      obtain ⟨k, h1, h2⟩ := keepL_mem hxm
      rw [Nat.zero_add] at h2
      unfold inQ at h2
      rw [Bool.and_eq_true, Bool.not_eq_true'] at h2
      exact hnv k _ h1 h2.1
  obtain ⟨s1, t1⟩ := below_st hS (w1 := { c.w with drawn := c.w.drawn + 1 }) ⟨rfl, rfl, rfl, Nat.le_refl _, fun _ _ => rfl⟩
  let c1 : Cx := { (c.at { c.w with drawn := c.w.drawn + 1 }) with k := c.k + (varsOf (pre ++ cg :: post)).length }
  have hle : (c.at { c.w with drawn := c.w.drawn + 1 }).le c1 := ⟨fun _ h => h, fun _ _ => rfl, fun _ _ => rfl, Nat.le_refl _, fun b _ hm => ⟨rfl, hm⟩⟩
  have hvars : ∀ x ∈ varsOf (pre ++ cg :: post), ∃ zs : List Value, x = .var (zs.map .v) ∧ zs.all flat = true := vars_flat hal
  have hget : ∀ i x, (H ++ varsOf (pre ++ cg :: post))[i]? = some x → (i < c.k ∧ H[i]? = some x) ∨ (c.k ≤ i ∧ x ∈ varsOf (pre ++ cg :: post)) := fun i x hx => by
    rw [List.getElem?_append] at hx
    split at hx
    · exact .inl ⟨by rw [hS.k]; assumption, hx⟩
    · exact .inr ⟨by rw [hS.k]; omega, List.mem_of_getElem? hx⟩
  have hbl : ∀ i, c1.born i → i < c.k := fun i hi => hS.bl i hi
  have hwr : ∀ b, Wr c1 (H ++ varsOf (pre ++ cg :: post)) b → Wr c H b := fun b ⟨i, x, hx, hl, hbn, he⟩ => by
    rcases hget i x hx with ⟨_, hx'⟩ | ⟨hi, _⟩
    · exact ⟨i, x, hx', hl, hbn, he⟩
    · have := hbl i hbn; omega
  have hstep : Step c H c1 (H ++ varsOf (pre ++ cg :: post)) :=
    ⟨t1.le.trans hle, rfl, rfl, rfl, fun b _ _ => rfl, fun b _ hm => hm, fun b _ _ hm => hm, fun b hb => .inl (hwr b hb), Nat.le_add_right _ _, fun i _ hb => hb⟩
  have hst : St w0 c1 (H ++ varsOf (pre ++ cg :: post)) := by
    refine ⟨by show c.k + _ = _; rw [hS.k, List.length_append], fun i hi => by have := hbl i hi; show i < c.k + _; omega, fun i x hx => ?_, fun i j oi oj hi hj li lj ni nj he => ?_, fun b hb => hS.base b (hwr b hb), s1.mlt, hS.below' hstep⟩
    · rcases hget i x hx with ⟨_, hx'⟩ | ⟨hi, hm⟩
      · refine (s1.ob i x hx').le hle (fun h => h) (fun hl hbn => ⟨rfl, s1.live_M ⟨i, x, hx', hl, hbn, rfl⟩⟩)
      · obtain ⟨zs, rfl, hf⟩ := hvars x hm
        exact .inr ⟨fun hb => by have := hbl i hb; omega, zs, rfl, hf⟩
    · rcases hget i oi hi with ⟨_, hi'⟩ | ⟨h1, _⟩
      · rcases hget j oj hj with ⟨_, hj'⟩ | ⟨h1, _⟩
        · exact hS.inj i j oi oj hi' hj' li lj ni nj he
        · have := hbl j nj; omega
      · have := hbl i ni; omega
  refine wp_region_any hmix ?_
  have hrem : rem ops.size (Array.replicate ops.size false) = List.range ops.size := by
    unfold rem
    refine List.filter_eq_self.2 (fun i hi => ?_)
    have := List.mem_range.1 hi
    simp [this]
  have hpick : pickT (tags 0 (pre ++ cg :: post)) (List.range ops.size) = tags 0 (pre ++ cg :: post) := by
    rw [hlen', pick_range _ _ (by rw [tags_len]; exact Nat.le_refl _), List.take_of_length_le (by rw [tags_len]; exact Nat.le_refl _)]
  have hpl : pre.length < ops.size := by rw [hlen']; simp
  refine schedC (Kf := Q .normal) hal hB hC hcg hG (ds := ds) (c0 := c) (H0 := H) (base := H.length) (fun ch a' w' h => .inl ⟨ch, rfl, h⟩) (fun c' F' H' a' hm hK => .inr ⟨c', F', H', rfl, hm.step, hm.st, hm.rf, hm.size, hm.defers, hK⟩) hS.k.symm hkd hX
    ops.size (Array.replicate ops.size false) c1 F (H ++ varsOf (pre ++ cg :: post)) a ((List.range ops.size).filter (inP pre.length fr)) (by simp) (by rw [hrem]; simp) (fun i hi => by rw [getD_replicate_false] at hi; cases hi)
    ⟨hstep, hst, hF.le hstep.le, hN, hds, by rw [hS.k]⟩ hkf ?_ (by simp [hpl]) ?_ ?_
  · rw [hrem, hpick]
    intro o j hoj d zs hv
    obtain ⟨i, hi⟩ := List.mem_iff_getElem?.1 hoj
    obtain ⟨h1, _⟩ := tags_var (pre ++ cg :: post) 0 i o j hi d zs hv
    refine ⟨?_, fun hb => by have := hbl _ hb; rw [hS.k] at this; omega⟩
    rw [List.getElem?_append_right (by omega)]
    simpa using h1
  · refine List.filter_congr (fun i hi => ?_)
    have := List.mem_range.1 hi
    simp [this]
  · rw [hpkP]
    exact hrun
end
end Ab
end Go.Proofs.YtgddkgbidhhheaaGreatDoor
namespace Go.Proofs.YtgddkgbidhhheaaGreatDoor
open Go.RowKit
namespace Ab
inductive ACode where
 | skip
 | region (ops:List AOper)
 | draw (ops:List AOper)
 | drawc (pre:List AOper) (qs:List Nat) (d:Option Nat) (f:Nat) (args:List Opd) (post:List AOper)
 | seq (a b:ACode)
 | cond (p:Opd) (a b:ACode)
 | block (id:Nat) (a:ACode)
 | loop (a:ACode)
 | exit (id:Nat)
 | label (l:Nat)
 | goto (l:Nat)
 | ret
section
variable {P:Program} {G:Gs}
def KeepD (G:Gs) (pre post:List AOper) (d:Option Nat) (F:Fr):Prop:=KeepF G.keep F∧(∀ o ∈ pre++post,∀ t,o.dst=some t→G.keep t=none)∧∀ t,d=some t→G.keep t=none
theorem keepD_none {i:World→Prop} {p:AV→List Ob→Prop} {pre post:List AOper} {d:Option Nat} {F:Fr}:KeepD ⟨i,p,fun _=>none⟩ pre post d F=True:=eq_true ⟨KeepF.none F,fun _ _ _ _=>rfl,fun _ _=>rfl⟩
def awp (P:Program) (G:Gs) (N:Nat):ACode→(Exit→Fr→List Ob→Prop)→Fr→List Ob→Prop
 | .skip,Q,F,H=>Q .normal F H
 | .region ops,Q,F,H=>awpOps P G N ops (Q .normal) F H
 | .draw ops,Q,F,H=>awpD P G N H.length 0 ops (Q .normal) F (H++varsOf ops)
 | .drawc pre qs d f args post,Q,F,H=>KeepD G pre post d F∧awpD P G N H.length 0 pre (fun F1 H1=>XCall P G H.length qs d f args F1 H1 (fun F2 H2=>awpD P G N H.length (varsOf pre).length post (Q .normal) F2 H2)) F (H++varsOf (pre++post))
 | .seq a b,Q,F,H=>awp P G N a (thenA (awp P G N b Q) Q) F H
 | .cond p a b,Q,F,H=>match opd F p with
  | some (.v (.bool t))=>bif t then awp P G N a Q F H else awp P G N b Q F H
  | _=>False
 | .block id a,Q,F,H=>awp P G N a (inBlockA id Q) F H
 | .loop a,Q,F,H=>∃ (I:Nat→Fr→List Ob→Prop) (n:Nat),I n F H∧∀ n F H,I n F H→awp P G N a (thenA (fun F' H'=>∃ m,m < n∧I m F' H') Q) F H
 | .exit id,Q,F,H=>Q (.exit id) F H
 | .label _,Q,F,H=>Q .normal F H
 | .goto l,Q,F,H=>Q (.goto l) F H
 | .ret,Q,F,H=>Q .ret F H
def stT (P:Program) (N:Nat):List Oper→List Opd
 | []=>[]
 | o :: r=>match compOp P N o with
  | some (.st _ (.t n) _)=>.t n :: stT P N r
  | some (.st _ (.k _) _)=>.k (.v (.bool false)) :: stT P N r
  | some (.app ..)=>.k (.v (.bool false)) :: stT P N r
  | some (.aps ..)=>.k (.v (.bool false)) :: stT P N r
  | some (.mkm ..)=>.k (.v (.bool false)) :: stT P N r
  | some (.mup ..)=>.k (.v (.bool false)) :: stT P N r
  | some (.men ..)=>.k (.v (.bool false)) :: stT P N r
  | some (.mes ..)=>.k (.v (.bool false)) :: stT P N r
  | some (.ust ..)=>.k (.v (.bool false)) :: stT P N r
  | _=>stT P N r
def isCallA:AOp→Bool
 | .call _ _ _=>true
 | _=>false
def findCall:List AOper→Option (List AOper × AOper × List AOper)
 | []=>none
 | o :: r=>match findCall r with
  | some (a,c,b)=>some (o :: a,c,b)
  | none=>bif isCallA o.op then some ([],o,r) else none
theorem findCall_is:∀ (al:List AOper) (a:List AOper) (c:AOper) (b:List AOper),findCall al=some (a,c,b)→al=a++c :: b
 | [],a,c,b,h=>by cases h
 | o :: r,a,c,b,h=>by
  simp only [findCall] at h
  split at h
  ·rename_i a' c' b' h'
   cases h
   rw [findCall_is r _ _ _ h']; rfl
  ·cases hi:isCallA o.op with
   | true=>rw [hi] at h; cases h; rfl
   | false=>rw [hi] at h; cases h
def rootQ (pre:List AOper):Nat→Nat→List Nat
 | 0,_=>[]
 | k + 1,n=>match pre.find? (fun o=>match o.dst with | some m=>m == n | none=>false) with
  | none=>[n]
  | some o=>match o.op with
   | .mov _ (.t m)=>rootQ pre k m
   | .nilc _ (.t m)=>rootQ pre k m
   | .fad _ _ (.t m)=>rootQ pre k m
   | .ld _ false _ _=>[0]
   | _=>[]
def callQ (pre:List AOper):List Opd→List Nat
 | .t n :: _=>rootQ pre 10 n
 | _=>[]
def freesOf (ops:Array Oper) (qs:List Nat) (ci:Nat) (post:List AOper):List Nat:=
 (post.zipIdx (ci + 1)).filterMap fun x=>if freeV qs x.1 && !((masks [] ops.toList).getD x.2 0).testBit ci then some x.2 else none
def drawC1 (ops:Array Oper) (qs:List Nat) (al:List AOper):Option ACode:=
 match findCall al with
 | some (pre,c,post)=>match c.op with
  | .call d f args=>if drawB ops al=true∧callB ops qs (freesOf ops qs pre.length post) pre c post=true then some (.drawc (keepL (inP pre.length (freesOf ops qs pre.length post)) 0 al) qs d f args (keepL (inQ pre.length (freesOf ops qs pre.length post)) 0 al)) else none
  | _=>none
 | none=>none
def eachL (ops:Array Oper) (qs:List Nat) (al:List AOper):List (Nat × List Opd):=
 let ms:=masks [] ops.toList
 al.zipIdx.filterMap fun x=>match x.1.op,x.1.dst with
  | .ld ..,some d=>
   let ps:=al.zipIdx.flatMap fun y=>if x.2 == y.2 || (ms.getD x.2 0).testBit y.2 || (ms.getD y.2 0).testBit x.2 then [] else match y.1.op with
    | .st _ (.t n) _=>[Opd.t n]
    | .call ..=>qs.map Opd.t
    | o=>if chainK o then [Opd.k (.v (.bool false))] else []
   if ps.isEmpty then none else some (d,ps)
  | _,_=>none
def eachE (ops:Array Oper) (qs:List Nat) (al:List AOper):List (Nat × List Opd):=
 let ms:=masks [] ops.toList
 al.zipIdx.filterMap fun x=>match x.1.op,x.1.dst with
  | .ld ..,some d=>
   let ps:=al.zipIdx.flatMap fun y=>if x.2 == y.2 || (ms.getD x.2 0).testBit y.2 || (ms.getD y.2 0).testBit x.2 then [] else match y.1.op with
    | .st _ (.t n) _=>[Opd.t n]
    | .call ..=>qs.map Opd.t
    | o=>if chainK o then [Opd.k (.v (.bool false))] else []
   if ps.isEmpty && !(al.zipIdx.any fun y=>!(x.2 == y.2 || (ms.getD x.2 0).testBit y.2 || (ms.getD y.2 0).testBit x.2) && (match y.1.op with | .call ..=>true | _=>false)) then none else some (d,ps)
  | _,_=>none
def qsOf (al:List AOper):List Nat:=
 match findCall al with
 | some (pre,c,_)=>match c.op with
  | .call _ _ args=>callQ pre args
  | _=>[]
 | none=>[]
def compDrawC (P:Program) (N:Nat) (ops:Array Oper):Option ACode:=
 match compOps P N .soft ops ops.toList with
 | some al0=>match drawC1 ops (qsOf al0) al0 with
  | some ac=>some ac
  | none=>match (compOps P N (.each (eachL ops (qsOf al0) al0)) ops ops.toList).bind (drawC1 ops (qsOf al0)) with
  | some ac=>some ac
  | none=>match (compOps P N (.each (eachE ops (qsOf al0) al0)) ops ops.toList).bind (drawC1 ops (qsOf al0)) with
  | some ac=>some ac
  | none=>match compOps P N (.deep (stT P N ops.toList++(qsOf al0).map .t)) ops ops.toList with
   | some al1=>drawC1 ops (qsOf al0) al1
   | none=>none
 | none=>none
theorem drawC1_ok (hmix:P.follows .mixedOrders=true) {N:Nat} {dp:Dp} {id:Nat} {ops:Array Oper} {qs:List Nat} {al:List AOper} (hal:compOps P N dp ops ops.toList=some al) {ac:ACode} (h:drawC1 ops qs al=some ac) (Q:Exit→Fr→List Ob→Prop) (F:Fr) (H:List Ob) (hw:awp P G N ac Q F H):AW P G N (.region id ops true) Q F H:=by
 unfold drawC1 at h
 split at h
 ·rename_i pre c post hf
  split at h
  ·rename_i d f args hop
   split at h
   ·rename_i hb
    cases h
    have:=findCall_is _ _ _ _ hf
    subst this
    obtain ⟨⟨k1,k2,k3⟩,hw⟩:=hw
    refine AW.drawc hmix hal hb.1 hb.2 hop k1 (fun o ho t ht=>?_) hw
    obtain ⟨k,hk⟩:=List.getElem?_of_mem ho
    have hdst:∀ o ∈ pre++c :: post,o.dst=dstA o.op:=by
     have hB:=hb.1
     simp only [drawB,Bool.and_eq_true] at hB
     exact fun o ho=>beq_iff_eq.1 (List.all_eq_true.1 hB.1.2 o ho)
    have mem:∀ (p:Nat→Bool) (A:List AOper) (i k:Nat) (o:AOper),A[k]? = some o→p (i + k)=true→o ∈ keepL p i A:=by
     intro p A
     induction A with
     | nil=>intro i k o h _; simp at h
     | cons a A ih=>
      intro i k o h hp
      simp only [keepL]
      cases k with
      | zero=>
       cases h
       have:p i=true:=hp
       rw [this]; simp
      | succ k=>
       have:=ih (i + 1) k o (by simpa using h) (by rw [← hp]; congr 1; omega)
       cases p i<;>simp [this]
    by_cases hkc:k=pre.length
    ·subst hkc
     rw [List.getElem?_append_right (Nat.le_refl _)] at hk
     simp at hk
     subst hk
     rw [hdst c (by simp),hop] at ht
     exact k3 t ht
    ·refine k2 o ?_ t ht
     cases hp:inP pre.length (freesOf ops qs pre.length post) k with
     | true=>exact List.mem_append_left _ (mem _ _ 0 k o hk (by rw [Nat.zero_add]; exact hp))
     | false=>exact List.mem_append_right _ (mem _ _ 0 k o hk (by rw [Nat.zero_add]; unfold inQ; rw [hp]; simpa using hkc))
   ·cases h
  ·cases h
 ·cases h
theorem compDrawC_ok (hmix:P.follows .mixedOrders=true) {N:Nat} {id:Nat} {ops:Array Oper} {ac:ACode} (h:compDrawC P N ops=some ac) (Q:Exit→Fr→List Ob→Prop) (F:Fr) (H:List Ob) (hw:awp P G N ac Q F H):AW P G N (.region id ops true) Q F H:=by
 unfold compDrawC at h
 split at h
 ·rename_i al0 hal0
  split at h
  ·rename_i ac0 h0
   cases h; exact drawC1_ok hmix hal0 h0 Q F H hw
  ·split at h
   ·rename_i ac1 h1
    cases h
    obtain ⟨al1,hal1,h1⟩:=Option.bind_eq_some_iff.1 h1
    exact drawC1_ok hmix hal1 h1 Q F H hw
   ·split at h
    ·rename_i ac1 h1
     cases h
     obtain ⟨al1,hal1,h1⟩:=Option.bind_eq_some_iff.1 h1
     exact drawC1_ok hmix hal1 h1 Q F H hw
    ·split at h
     ·rename_i al1 hal1
      exact drawC1_ok hmix hal1 h Q F H hw
     ·cases h
 ·cases h
def compDrawE (P:Program) (N:Nat) (ops:Array Oper):Option ACode:=
 match compOps P N .soft ops ops.toList with
 | some al0=>if drawB ops al0=true then none else match compOps P N (.each (eachL ops [] al0)) ops ops.toList with
  | some al=>if drawB ops al=true then some (.draw al) else none
  | none=>none
 | none=>none
theorem compDrawE_ok (hmix:P.follows .mixedOrders=true) {N:Nat} {id:Nat} {ops:Array Oper} {ac:ACode} (h:compDrawE P N ops=some ac) (Q:Exit→Fr→List Ob→Prop) (F:Fr) (H:List Ob) (hw:awp P G N ac Q F H):AW P G N (.region id ops true) Q F H:=by
 unfold compDrawE at h
 split at h
 ·split at h
  ·cases h
  ·split at h
   ·rename_i al hal
    split at h
    ·rename_i hB
     cases h; exact AW.draw hmix hal hB hw
    ·cases h
   ·cases h
 ·cases h
def drawM (P:Program) (m:Bool) (N:Nat) (ops:Array Oper):Option ACode:=bif m then (match compDrawC P N ops with
 | some ac=>some ac
 | none=>compDrawE P N ops) else none
def compCode (P:Program) (m:Bool) (N:Nat):Code→Option ACode
 | .skip=>some .skip
 | .region _ ops dr=>match compOps P N .plain ops ops.toList,compOps P N .soft ops ops.toList,compOps P N (.deep (stT P N ops.toList)) ops ops.toList,compOps P N (.deep [.k (.v (.bool false))]) ops ops.toList with
  | some al,some al0,some al',some al''=>if dr then (match drawM P m N ops with | some ac=>some ac | none=>if drawB ops al0=true then some (.draw al0) else if drawB ops al'=true then some (.draw al') else if drawB ops al''=true then some (.draw al'') else none) else some (.region al)
  | _,_,_,_=>none
 | .seq a b=>match compCode P m N a,compCode P m N b with
  | some x,some y=>some (.seq x y)
  | _,_=>none
 | .cond q a b=>match cOpd q,compCode P m N a,compCode P m N b with
  | some p,some x,some y=>some (.cond p x y)
  | _,_,_=>none
 | .block id a=>match compCode P m N a with
  | some x=>some (.block id x)
  | none=>none
 | .loop a=>match compCode P m N a with
  | some x=>some (.loop x)
  | none=>none
 | .exit id=>some (.exit id)
 | .label l=>some (.label l)
 | .goto l=>some (.goto l)
 | .ret=>some .ret
 | _=>none
theorem compCode_ok (hmix:P.follows .mixedOrders=true) {m:Bool} {N:Nat}:∀ (code:Code) (ac:ACode),compCode P m N code=some ac→∀ (Q:Exit→Fr→List Ob→Prop) (F:Fr) (H:List Ob),awp P G N ac Q F H→AW P G N code Q F H
 | .skip,ac,h,Q,F,H,hw=>by cases h; exact AW.skip hw
 | .region id ops dr,ac,h,Q,F,H,hw=>by
  simp only [compCode] at h
  split at h
  ·rename_i al al0 al' al'' hal hal0 hal' hal''
   cases dr with
   | true=>
    simp only [if_true] at h
    split at h
    ·rename_i ac' hm
     cases h
     unfold drawM at hm
     cases m with
     | true=>
      simp only [cond_true] at hm
      split at hm
      ·rename_i ac0 h0
       cases hm; exact compDrawC_ok hmix h0 Q F H hw
      ·exact compDrawE_ok hmix hm Q F H hw
     | false=>cases hm
    ·split at h
     ·rename_i hB
      cases h; exact AW.draw hmix hal0 hB hw
     ·split at h
      ·rename_i hB
       cases h; exact AW.draw hmix hal' hB hw
      ·split at h
       ·rename_i hB
        cases h; exact AW.draw hmix hal'' hB hw
       ·cases h
   | false=>cases h; exact AW.region hal hw
  ·cases h
 | .seq a b,ac,h,Q,F,H,hw=>by
  simp only [compCode] at h
  split at h
  ·rename_i x y hx hy
   cases h
   refine AW.seq ((compCode_ok hmix a x hx _ F H hw).mono fun e F' H' hq=>?_)
   cases e with
   | normal=>exact compCode_ok hmix b y hy Q F' H' hq
   | _=>exact hq
  ·cases h
 | .cond q a b,ac,h,Q,F,H,hw=>by
  simp only [compCode] at h
  split at h
  ·rename_i p x y hp hx hy
   cases h
   simp only [awp] at hw
   split at hw
   ·rename_i t ht
    refine AW.cond hp ht ?_
    cases t with
    | true=>exact compCode_ok hmix a x hx Q F H hw
    | false=>exact compCode_ok hmix b y hy Q F H hw
   ·exact hw.elim
  ·cases h
 | .block id a,ac,h,Q,F,H,hw=>by
  simp only [compCode] at h
  split at h
  ·rename_i x hx
   cases h
   exact AW.block (compCode_ok hmix a x hx _ F H hw)
  ·cases h
 | .loop a,ac,h,Q,F,H,hw=>by
  simp only [compCode] at h
  split at h
  ·rename_i x hx
   cases h
   obtain ⟨I,n,h0,hr⟩:=hw
   exact AW.loop I n h0 (fun n F H hI=>compCode_ok hmix a x hx _ F H (hr n F H hI))
  ·cases h
 | .exit id,ac,h,Q,F,H,hw=>by cases h; exact AW.exit hw
 | .label l,ac,h,Q,F,H,hw=>by cases h; exact AW.label hw
 | .goto l,ac,h,Q,F,H,hw=>by cases h; exact AW.goto hw
 | .ret,ac,h,Q,F,H,hw=>by cases h; exact AW.ret hw
 | .rangeFunc _ _ _ _,ac,h,Q,F,H,hw=>by cases h
 | .scope _,ac,h,Q,F,H,hw=>by cases h
 | .refuse _,ac,h,Q,F,H,hw=>by cases h
def retQ (sl:List RSlot) (post:AV→List Ob→Prop):Exit→Fr→List Ob→Prop
 | .normal,F,H=>∃ xs,rgets F H sl=some xs∧post (rval xs) H
 | .ret,F,H=>∃ xs,rgets F H sl=some xs∧post (rval xs) H
 | _,_,_=>False
structure Fun (P:Program) (f:FuncId) (N:Nat) (ac:ACode) (sl:List RSlot):Prop where
 ex:∃ fn code m,P.funcs[f]? = some fn∧fn.body=some code∧fn.ntmps=N∧compCode P m N code=some ac∧compRes P fn.results.toList=some sl∧(fn.name == "runtime.NumGoroutine")=false
theorem Fun.has {f:FuncId} {N:Nat} {ac:ACode} {sl:List RSlot} (h:Fun P f N ac sl):HasBody P f:=by
 obtain ⟨fn,code,_,h1,h2,_,_,_,h6⟩:=h.ex
 exact ⟨fn,code,h1,h6,h2⟩
def funB (P:Program) (f:FuncId) (m:Bool:=false):Option (Nat × ACode × List RSlot):=
 match P.funcs[f]? with
 | some fn=>if (fn.name == "runtime.NumGoroutine")=true then none else match fn.body with
  | some code=>match compCode P m fn.ntmps code,compRes P fn.results.toList with
   | some ac,some sl=>some (fn.ntmps,ac,sl)
   | _,_=>none
  | none=>none
 | none=>none
theorem Fun.of {f:FuncId} {N:Nat} {ac:ACode} {sl:List RSlot} {m:Bool} (h:funB P f m=some (N,ac,sl)):Fun P f N ac sl:=by
 unfold funB at h
 split at h
 ·rename_i fn hf
  split at h
  ·cases h
  ·rename_i hnm
   split at h
   ·rename_i code hb
    split at h
    ·rename_i ac' sl' hc hr
     cases h
     exact ⟨fn,code,m,hf,hb,rfl,hc,hr,by simpa using hnm⟩
    ·cases h
   ·cases h
 ·cases h
theorem AC.of (hmix : P.follows .mixedOrders = true) {f : FuncId} {N : Nat} {ac : ACode} {sl : List RSlot} (hf : Fun P f N ac sl) {args : List AV} {objs : List Ob} {post : AV → List Ob → Prop} (hN : args.length ≤ N)
    (h : awp P G N ac (retQ sl post) (argF args) objs) : AC P G f args objs post := by
  intro w0 c vs hG hS ⟨hvs, hargs⟩
  obtain ⟨fn, code, m, h1, h2, h3, h4, h5, _⟩ := hf.ex
  refine calls_of_wp h1 h2 ?_
  have hsz : (vs ++ Array.replicate (fn.ntmps - vs.size) undef).size = N := by simp; omega
  have hF : RF c (argF args) { tmps := vs ++ Array.replicate (fn.ntmps - vs.size) undef, defers := [] } := fun t x ht => by
    obtain ⟨u, hu, hr⟩ := hargs t x ht
    refine ⟨u, ?_, hr⟩
    show (vs ++ Array.replicate (fn.ntmps - vs.size) undef)[t]? = _
    rw [Array.getElem?_append_left (Array.getElem?_eq_some_iff.1 hu).1]; exact hu
  have hw := compCode_ok hmix code ac h4 _ _ _ h w0 [] c { tmps := vs ++ Array.replicate (fn.ntmps - vs.size) undef, defers := [] } hG hS hF hsz rfl
  refine wp_mono hw (fun e a' w' hfin => ?_)
  rcases hfin with ⟨ch, rfl, c', H', u, x, p1, p2, p3, p4, p5, p6, p7⟩ | hfin
  · exact ⟨p7.1, .inr ⟨ch, c', H', u, x, rfl, p1, p2, p3, p4, p5, p6⟩⟩
  obtain ⟨c', F', H', rfl, q2, q3, q4, q5, q6, q7⟩ := hfin.ex
  have key : (∃ xs, rgets F' H' sl = some xs ∧ post (rval xs) H') → a'.defers = [] ∧ ∃ v, (results fn a'.tmps).run P c'.w = .ok v c'.w ∧ ((∃ (c'' : Cx) (u : Value) (x : AV) (objs' : List Ob), c''.w = c'.w ∧ Ending.returned v = .returned u ∧ Step c objs c'' objs' ∧ St w0 c'' objs' ∧ RV c'' x u ∧ post x objs') ∨
      ∃ (ch : List PanicEntry) (c2 : Cx) (objs' : List Ob) (u : Value) (x : AV), Ending.returned v = .panicked ch ∧ c2.w = c'.w ∧ Step c objs c2 objs' ∧ St w0 c2 objs' ∧ ch = [{ v := u, recovered := false }] ∧ RD c2.w c2.M x u ∧ G.pan x objs') := fun ⟨xs, hxs, hp⟩ => by
    obtain ⟨v, hv1, hv2⟩ := run_results h5 q3 q4 hxs
    exact ⟨q6, v, hv1, .inl ⟨c', v, _, H', rfl, rfl, q2, q3, hv2, hp⟩⟩
  cases e with
  | normal => exact key q7
  | ret => exact key q7
  | exit id => exact q7.elim
  | goto l => exact q7.elim
  | panic ch => exact q7.elim
  | outgrown => exact q7.elim
theorem AP.of {G:World→Prop} (hmix:P.follows .mixedOrders=true) {f:FuncId} {N:Nat} {ac:ACode} {sl:List RSlot} (hf:Fun P f N ac sl) {args:List AV} {post:AV→Prop} (hN:args.length≤N)
  (h:awp P (.np G) N ac (retQ sl (fun x H=>deepV (frzV H x).2=true∧post (frzV H x).2)) (argF args) []):AP P G f args post:=AP.ofAC (AC.of hmix hf hN h)
end
end Ab
end Go.Proofs.YtgddkgbidhhheaaGreatDoor
namespace Go.Proofs.YtgddkgbidhhheaaGreatDoor
open Go.RowKit
namespace Ab
theorem hid_ops (P:Program) (G:Gs) (N:Nat):Nonempty { f:List AOper→(Fr→List Ob→Prop)→Fr→List Ob→Prop // f=awpOps P G N }:=⟨⟨_,rfl⟩⟩
theorem hid_awp (P:Program) (G:Gs) (N:Nat):Nonempty { f:ACode→(Exit→Fr→List Ob→Prop)→Fr→List Ob→Prop // f=awp P G N }:=⟨⟨_,rfl⟩⟩
theorem hid_D (P:Program) (G:Gs) (N:Nat):Nonempty { f:Nat→Nat→List AOper→(Fr→List Ob→Prop)→Fr→List Ob→Prop // f=awpD P G N }:=⟨⟨_,rfl⟩⟩
noncomputable def aops (P:Program) (G:Gs) (N:Nat):List AOper→(Fr→List Ob→Prop)→Fr→List Ob→Prop:=(Classical.choice (hid_ops P G N)).1
noncomputable def aw (P:Program) (G:Gs) (N:Nat):ACode→(Exit→Fr→List Ob→Prop)→Fr→List Ob→Prop:=(Classical.choice (hid_awp P G N)).1
noncomputable def adrw (P:Program) (G:Gs) (N:Nat):Nat→Nat→List AOper→(Fr→List Ob→Prop)→Fr→List Ob→Prop:=(Classical.choice (hid_D P G N)).1
section
variable {P:Program} {G:Gs} {N:Nat} {Q:Exit→Fr→List Ob→Prop} {F F':Fr} {H H':List Ob} {K:Fr→List Ob→Prop}
theorem aops_is:aops P G N=awpOps P G N:=(Classical.choice (hid_ops P G N)).2
theorem aw_is:aw P G N=awp P G N:=(Classical.choice (hid_awp P G N)).2
theorem adrw_is:adrw P G N=awpD P G N:=(Classical.choice (hid_D P G N)).2
theorem aops_nil:aops P G N [] K F H=K F H:=by rw [aops_is]; rfl
theorem aops_cons (g:Option (Nat × Bool)) (d:Option Nat) (o:AOp) (r:List AOper):aops P G N (⟨g,d,o⟩ :: r) K F H=guardP g F (sem P G N o F H (aops P G N r K)) (aops P G N r K (skipF F d) H):=by rw [aops_is]; rfl
theorem aw_skip:aw P G N .skip Q F H=Q .normal F H:=by rw [aw_is]; rfl
theorem aw_region (ops:List AOper):aw P G N (.region ops) Q F H=aops P G N ops (Q .normal) F H:=by rw [aw_is,aops_is]; rfl
theorem aw_seq (a b:ACode):aw P G N (.seq a b) Q F H=aw P G N a (thenA (aw P G N b Q) Q) F H:=by rw [aw_is]; rfl
theorem aw_block (id:Nat) (a:ACode):aw P G N (.block id a) Q F H=aw P G N a (inBlockA id Q) F H:=by rw [aw_is]; rfl
theorem aw_exit (id:Nat):aw P G N (.exit id) Q F H=Q (.exit id) F H:=by rw [aw_is]; rfl
theorem aw_ret:aw P G N .ret Q F H=Q .ret F H:=by rw [aw_is]; rfl
inductive Tag {α:Sort 1} (a:α):Type where
 | mk
 | other
def condP (p:Option AV) (yes no:Prop) (_:Tag yes) (_:Tag no):Prop:=match p with
  | some (.v (.bool t))=>bif t then yes else no
  | _=>False
theorem condP_t (yes no:Prop) (a:Tag yes) (b:Tag no):condP (some (.v (.bool true))) yes no a b=yes:=rfl
theorem condP_f (yes no:Prop) (a:Tag yes) (b:Tag no):condP (some (.v (.bool false))) yes no a b=no:=rfl
theorem aw_cond (p:Opd) (a b:ACode):aw P G N (.cond p a b) Q F H=condP (opd F p) (aw P G N a Q F H) (aw P G N b Q F H) .mk .mk:=by rw [aw_is]; rfl
theorem aw_loop {a:ACode} (I:Nat→Fr→List Ob→Prop) (n:Nat) (h0:I n F H) (hr:∀ n F H,I n F H→aw P G N a (thenA (fun F' H'=>∃ m,m < n∧I m F' H') Q) F H):aw P G N (.loop a) Q F H:=by rw [aw_is] at *; exact ⟨I,n,h0,hr⟩
theorem upd_at (F:Fr) (d t:Nat) (x:AV):upd F d x t=if t=d then some x else F t:=by unfold upd; rfl
theorem updN_at (F:Fr) (d t:Nat):updN F d t=if t=d then none else F t:=by unfold updN; rfl
theorem argF_at (args:List AV) (t:Nat):argF args t=args[t]?:=by unfold argF; rfl
theorem thenA_normal (n:Fr→List Ob→Prop) (Q:Exit→Fr→List Ob→Prop):thenA n Q .normal F H=n F H:=by unfold thenA; rfl
theorem thenA_ret (n:Fr→List Ob→Prop) (Q:Exit→Fr→List Ob→Prop):thenA n Q .ret F H=Q .ret F H:=by unfold thenA; rfl
theorem thenA_exit (n:Fr→List Ob→Prop) (Q:Exit→Fr→List Ob→Prop) (i:Nat):thenA n Q (.exit i) F H=Q (.exit i) F H:=by unfold thenA; rfl
def DCall (P:Program) (G:Gs) (d:Option Nat) (f:FuncId) (args:List Opd) (F:Fr) (H:List Ob) (K:Fr→List Ob→Prop):Prop:=
 ∃ xs x,evA F args=some xs∧AP P G.inv f (xs.map (snapE H)) (fun y=>y=x)∧(xs.map (snapE H)).all deepE=true∧(xs.all (notOwn H) || flatV x)=true∧K (putF F d x) H
theorem aw_draw (ops:List AOper):aw P G N (.draw ops) Q F H=adrw P G N H.length 0 ops (Q .normal) F (H++varsOf ops):=by rw [aw_is,adrw_is]; rfl
def XC (P:Program) (G:Gs) (base:Nat) (qs:List Nat) (d:Option Nat) (f:FuncId) (args:List Opd) (F:Fr) (H:List Ob) (K:Fr→List Ob→Prop) (_:Tag K):Prop:=XCall P G base qs d f args F H K
theorem aw_drawc (pre:List AOper) (qs:List Nat) (d:Option Nat) (f:Nat) (args:List Opd) (post:List AOper):aw P G N (.drawc pre qs d f args post) Q F H =
  (KeepD G pre post d F∧adrw P G N H.length 0 pre (fun F1 H1=>XC P G H.length qs d f args F1 H1 (fun F2 H2=>adrw P G N H.length (varsOf pre).length post (Q .normal) F2 H2) .mk) F (H++varsOf (pre++post))):=by rw [aw_is,adrw_is]; rfl
theorem adrw_nil (base j:Nat):adrw P G N base j [] K F H=K F H:=by rw [adrw_is]; rfl
theorem adrw_cons (base j:Nat) (g:Option (Nat × Bool)) (d:Option Nat) (o:AOp) (r:List AOper):adrw P G N base j (⟨g,d,o⟩ :: r) K F H=guardP g F (dsem P G N base j o F H (adrw P G N base (bif isVar o then j + 1 else j) r K)) (isVar o=false∧adrw P G N base (bif isVar o then j + 1 else j) r K (skipF F d) H):=by rw [adrw_is]; rfl
theorem dsem_var (base j d:Nat) (zs:List AV):dsem P G N base j (.var d zs) F H K=K (upd F d (.ptr (base + j) 0)) H:=by unfold dsem; rfl
theorem dsem_call (base j:Nat) (d:Option Nat) (f:Nat) (args:List Opd):dsem P G N base j (.call d f args) F H K=DCall P G d f args F H K:=by unfold dsem DCall; rfl
theorem dsem_q (base j:Nat) (o:AOp) (h:(quietK o || chainK o)=true):dsem P G N base j o F H K=sem P G N o F H K:=by
 cases o<;>first | (simp only [quietK,chainK,Bool.or_self,Bool.false_eq_true] at h; done) | simp [dsem,quietK,chainK]
theorem wrap64 (k:Int) (h:-9223372036854775808≤k∧k < 9223372036854775808):IntKind.i64.wrap k=k:=by rw [IntKind.wrap_i64]; omega
def finQ (post:AV→Prop) (x:AV) (H:List Ob):Prop:=deepV (frzV H x).2=true∧post (frzV H x).2
theorem AP.go {G:World→Prop} (hmix:P.follows .mixedOrders=true) {f:FuncId} {N:Nat} {ac:ACode} {sl:List RSlot} (hf:Fun P f N ac sl) {args:List AV} {post:AV→Prop} (hN:args.length≤N)
  (h:aw P (.np G) N ac (retQ sl (finQ post)) (argF args) []):AP P G f args post:=AP.of hmix hf hN (by rw [aw_is] at h; exact h)
end
def gB (p:Option AV) (b:Bool) (yes no:Prop) (_:Tag yes) (_:Tag no):Prop:=match p with
  | some (.v (.bool x))=>bif x == b then yes else no
  | some (.tup _)=>no
  | _=>False
def SC (P:Program) (G:Gs) (N:Nat) (d:Option Nat) (f:FuncId) (args:List Opd) (F:Fr) (H:List Ob) (K:Fr→List Ob→Prop) (_:Tag K):Prop:=SCall P G N d f args F H K
def SCV (P:Program) (G:Gs) (N:Nat) (d:Option Nat) (x:Option AV) (args:List Opd) (F:Fr) (H:List Ob) (K:Fr→List Ob→Prop) (_:Tag K):Prop:=
 match x with
 | some (.clo f caps)=>HasBody P f∧SCall P G N d f (args++caps.map .k) F H K
 | _=>False
def DC (P:Program) (G:Gs) (d:Option Nat) (f:FuncId) (args:List Opd) (F:Fr) (H:List Ob) (K:Fr→List Ob→Prop) (_:Tag K):Prop:=DCall P G d f args F H K
def LP (P:Program) (G:Gs) (N:Nat) (a:ACode) (Q:Exit→Fr→List Ob→Prop) (F:Fr) (H:List Ob) (_:Tag a) (_:Tag Q):Prop:=aw P G N (.loop a) Q F H
section
variable {P:Program} {G:Gs} {N:Nat} {Q:Exit→Fr→List Ob→Prop} {F F':Fr} {H H':List Ob} {K:Fr→List Ob→Prop}
theorem guardP_none (yes no:Prop):guardP none F yes no=yes:=by unfold guardP; rfl
theorem guardP_some (s:Nat) (b:Bool) (yes no:Prop):guardP (some (s,b)) F yes no=gB (F s) b yes no .mk .mk:=by unfold guardP gB; rfl
theorem gB_tup (b:Bool) (xs:List AV) (yes no:Prop) (a:Tag yes) (c:Tag no):gB (some (.tup xs)) b yes no a c=no:=rfl
theorem gB_tt (yes no:Prop) (a:Tag yes) (b:Tag no):gB (some (.v (.bool true))) true yes no a b=yes:=rfl
theorem gB_tf (yes no:Prop) (a:Tag yes) (b:Tag no):gB (some (.v (.bool true))) false yes no a b=no:=rfl
theorem gB_ft (yes no:Prop) (a:Tag yes) (b:Tag no):gB (some (.v (.bool false))) true yes no a b=no:=rfl
theorem gB_ff (yes no:Prop) (a:Tag yes) (b:Tag no):gB (some (.v (.bool false))) false yes no a b=yes:=rfl
theorem sem_call (d:Option Nat) (f:Nat) (args:List Opd):sem P G N (.call d f args) F H K=SC P G N d f args F H K .mk:=by unfold SC; rfl
theorem dsem_call' (base j:Nat) (d:Option Nat) (f:Nat) (args:List Opd):dsem P G N base j (.call d f args) F H K=DC P G d f args F H K .mk:=by unfold DC; exact dsem_call base j d f args
theorem sem_callv (d:Option Nat) (x:Opd) (args:List Opd):sem P G N (.callv d x args) F H K=SCV P G N d (opd F x) args F H K .mk:=rfl
theorem aw_loop' (a:ACode):aw P G N (.loop a) Q F H=LP P G N a Q F H .mk .mk:=by unfold LP; rfl
theorem SC.frz {d:Option Nat} (hdN:∀ t,d=some t→t < N) {f:FuncId} {args:List Opd} (xs:List AV) (hx:evA F args=some xs) {post:AV→Prop}
  (hA:AP P G.inv f (frzT H xs).2 post) (hd:(frzT H xs).2.all deepE=true) (hK:∀ x,post x→K (putF F d x) (frzT H xs).1) {a:Tag K}:SC P G N d f args F H K a:=SCall.frz hdN hx hA hd hK
theorem DC.go {d:Option Nat} {f:FuncId} {args:List Opd} (xs:List AV) (x:AV) (h1:evA F args=some xs) (h2:AP P G.inv f (xs.map (snapE H)) (fun y=>y=x)) (h3:(xs.map (snapE H)).all deepE=true) (h4:(xs.all (notOwn H) || flatV x)=true) (h5:K (putF F d x) H) {a:Tag K}:DC P G d f args F H K a:=⟨xs,x,h1,h2,h3,h4,h5⟩
theorem LP.go {c:ACode} (I:Nat→Fr→List Ob→Prop) (n:Nat) (h0:I n F H) (hr:∀ n F H,I n F H→aw P G N c (thenA (fun F' H'=>∃ m,m < n∧I m F' H') Q) F H) {a:Tag c} {b:Tag Q}:LP P G N c Q F H a b:=aw_loop I n h0 hr
end
theorem eqI (a b:Int):(a == b)=decide (a=b):=by rw [Bool.eq_iff_iff]; simp
theorem neI (a b:Int):(a != b) = !decide (a=b):=by rw [bne,eqI]
theorem set_last {α:Type} (H:List α) (a b:α):(H++[a]).set H.length b=H++[b]:=by simp [List.set_append]
theorem get_last {α:Type} (H:List α) (a:α):(H++[a])[H.length]? = some a:=by simp
attribute [simp] set_last get_last keepD_none
@[simp] theorem keepF_none (F:Fr):KeepF (fun _=>none) F=True:=eq_true (KeepF.none F)
attribute [simp ↓ high] sem_call sem_callv dsem_call'
attribute [simp ↓] aw_skip aw_region aw_seq aw_block aw_exit aw_ret aw_cond aw_draw aw_drawc aw_loop' thenA_normal thenA_ret thenA_exit inBlockA retQ finQ aops_nil aops_cons adrw_nil adrw_cons guardP_none guardP_some dsem_var dsem_q sem sMov sPick sLd sFad sIxa sLen sBin sCat sEqb sEqc sUn sCvi sCvb sIxs sSlS sSlc sExt sFld sVar sBox sSt sBld sBsl sMks sApp sAps sNil sMm sCvm sEqs sLdd sIxd sMki sTas sMkf sMkm sMup sLku sMen sMes sSlo sPan sBoxt sUsd sUst
attribute [simp] tasR lkr keyB keq Option.getD_some Option.getD_none evL eqI neI bytesOf_map condP_t condP_f gB_tt gB_tf gB_ft gB_ff gB_tup upd_at updN_at argF_at rgets rget rval skipF opd binF intOp strOp eqF unF Ab.slc slcD adr frz1 frzL frzE frzT frzV quietK chainK isVar varsOf deep1 deepE deepV evA putF Ab.isTup cellsA bOpd flat snapE notOwn flatV flatE
end Ab
end Go.Proofs.YtgddkgbidhhheaaGreatDoor
namespace Go.Proofs.YtgddkgbidhhheaaGreatDoor
open Go.RowKit
namespace Ab
section
variable {P:Program} {G:Gs}
def AMs (P:Program) (G:Gs) (f:FuncId) (args:List AV) (css:List (List AV)) (post:AV→List (List AV)→Prop):Prop:=
 AC P G f args (css.map .var) (fun x H=>deepV (frzV H x).2=true∧∃ css':List (List AV),css'.length=css.length∧(∀ (j:Nat) (cs:List AV),css'[j]? = some cs→(frzV H x).1[j]? = some (.var cs)∧cs.all deep1=true)∧post (frzV H x).2 css')
theorem AC.mono {f:FuncId} {args:List AV} {objs:List Ob} {post post':AV→List Ob→Prop} (h:AC P G f args objs post) (hp:∀ x H,post x H→post' x H):AC P G f args objs post':=fun w0 c vs a b d=>
 (h w0 c vs a b d).mono fun e w' hh=>hh.imp (fun ⟨c',u,x,objs',h1,h2,h3,h4,h5,h6⟩=>⟨c',u,x,objs',h1,h2,h3,h4,h5,hp x objs' h6⟩) id
theorem AMs.mono {f:FuncId} {args:List AV} {css:List (List AV)} {post post':AV→List (List AV)→Prop} (h:AMs P G f args css post) (hp:∀ x y,post x y→post' x y):AMs P G f args css post':=
 AC.mono h fun x H ⟨h1,css',h2,h3,h4⟩=>⟨h1,css',h2,h3,hp _ _ h4⟩
def toO (ids:List Nat) (x:AV):AV:=
 match x with
 | .ptr i off=>.ptr (ids.idxOf i) off
 | x=>x
def lentO (ids:List Nat) (x:AV):Bool:=
 match x with
 | .ptr i _=>ids.contains i
 | x=>deepE x
def setAll:List Ob→List Nat→List (List AV)→List Ob
 | H,i :: is,cs :: css=>setAll (H.set i (.var cs)) is css
 | H,_,_=>H
theorem setAll_len:∀ (ids:List Nat) (css:List (List AV)) (H:List Ob),(setAll H ids css).length=H.length
 | [],css,H=>by cases css<;>rfl
 | i :: is,[],H=>rfl
 | i :: is,cs :: css,H=>by unfold setAll; rw [setAll_len is css]; simp
theorem setAll_other:∀ (ids:List Nat) (css:List (List AV)) (H:List Ob) (k:Nat),k ∉ ids→(setAll H ids css)[k]? = H[k]?
 | [],css,H,k,_=>by cases css<;>rfl
 | i :: is,[],H,k,_=>rfl
 | i :: is,cs :: css,H,k,h=>by
  unfold setAll
  rw [setAll_other is css _ k (fun hk=>h (by simp [hk])),List.getElem?_set_ne (fun e=>h (by simp [e]))]
theorem setAll_at:∀ (ids:List Nat) (css:List (List AV)) (H:List Ob) (j i:Nat) (cs:List AV),ids.Nodup→(∀ i ∈ ids,i < H.length)→ids[j]? = some i→css[j]? = some cs→(setAll H ids css)[i]? = some (.var cs)
 | [],css,H,j,i,cs,_,_,h,_=>by simp at h
 | i0 :: is,[],H,j,i,cs,_,_,_,h=>by simp at h
 | i0 :: is,cs0 :: css,H,j,i,cs,hn,hb,hi,hc=>by
  unfold setAll
  rw [List.nodup_cons] at hn
  cases j with
  | zero=>
   simp only [List.getElem?_cons_zero,Option.some.injEq] at hi hc
   subst hi; subst hc
   rw [setAll_other is css _ i0 hn.1,List.getElem?_set_self (hb i0 (by simp))]
  | succ j=>
   simp only [List.getElem?_cons_succ] at hi hc
   exact setAll_at is css _ j i cs hn.2 (fun k hk=>by rw [List.length_set]; exact hb k (by simp [hk])) hi hc
theorem RDL.of {c:Cx} {cs:List AV} {us:List Value} (h:RL c cs us) (hd:cs.all deep1=true):RDL c.w c.M cs us:=h.rdl (fun x hx=>List.all_eq_true.1 hd x hx)
set_option maxHeartbeats 1000000 in
theorem SCall.lendM {G : World → Prop} {N : Nat} {d : Option Nat} (hdN : ∀ t, d = some t → t < N) {f : FuncId} {args : List Opd} {F : Fr} {H : List Ob} {K : Fr → List Ob → Prop} {xs : List AV} (hx : evA F args = some xs)
    {ids : List Nat} {css : List (List AV)} (hl : css.length = ids.length) (hnd : ids.Nodup) (hi : ∀ (j i : Nat) (cs : List AV), ids[j]? = some i → css[j]? = some cs → (frzT H xs).1[i]? = some (.var cs))
    (hcs : ∀ cs ∈ css, cs.all deep1 = true) (hp : ∀ i ∈ ids, ∃ off, AV.ptr i off ∈ (frzT H xs).2) {post : AV → List (List AV) → Prop} (hA : AMs P (.np G) f ((frzT H xs).2.map (toO ids)) css post)
    (hd : (frzT H xs).2.all (lentO ids) = true) (hK : ∀ x css', css'.length = css.length → (∀ cs ∈ css', cs.all deep1 = true) → post x css' → K (putF F d x) (setAll (frzT H xs).1 ids css')) : SCall P (.np G) N d f args F H K := by
  intro w0 ds c a vs hG hS hF hN hds ⟨hvl, hvs⟩
  obtain ⟨g1, g2⟩ := evA_at args xs hx
  obtain ⟨c1, e1, s1, t1, l1, v1⟩ := frzT_ok xs hS (us := vs.toList) (by simp [hvl, g1]) (fun j x u hx hu => by
    obtain ⟨p, hp, hpx⟩ := g2 j x hx
    obtain ⟨u', hu', hr⟩ := hvs j p x hp hpx
    rw [Array.getElem?_toList] at hu
    rw [hu'] at hu; cases hu; exact hr)
  obtain ⟨H1, hH1⟩ : ∃ H1, (frzT H xs).1 = H1 := ⟨_, rfl⟩
  obtain ⟨ys, hys⟩ : ∃ ys, (frzT H xs).2 = ys := ⟨_, rfl⟩
  rw [hH1] at s1 t1 hi hK
  rw [hys] at l1 v1 hp hA hd
  have hval : ∀ (j : Nat) (y : AV), ys[j]? = some y → ∃ u, vs[j]? = some u ∧ RV c1 y u := fun j y hy => by
    have hj : j < vs.size := by have := (List.getElem?_eq_some_iff.1 hy).1; rw [← l1] at this; simpa using this
    exact ⟨vs[j], Array.getElem?_eq_getElem hj, v1 j y vs[j] hy (by simp [hj])⟩
  have hborn : ∀ i ∈ ids, c1.born i := fun i hii => by
    obtain ⟨off, hm⟩ := hp i hii
    obtain ⟨j, hj⟩ := List.getElem?_of_mem hm
    obtain ⟨u, _, hu⟩ := hval j _ hj
    exact hu.inv_ptr.2
  have hlt : ∀ i ∈ ids, i < H1.length := fun i hii => by
    obtain ⟨j, hj⟩ := List.getElem?_of_mem hii
    have hjc : j < css.length := by rw [hl]; exact (List.getElem?_eq_some_iff.1 hj).1
    exact (List.getElem?_eq_some_iff.1 (hi j i css[j] hj (List.getElem?_eq_getElem hjc))).1
  let cc : Cx := { w := c1.w, M := c1.M, k := ids.length, born := fun j => j < ids.length, β := fun j => c1.β (ids.getD j 0), sv := fun _ => undef }
  have hget : ∀ (j : Nat) (o : Ob), (css.map Ob.var)[j]? = some o → ∃ i cs, ids[j]? = some i ∧ css[j]? = some cs ∧ o = .var cs ∧ H1[i]? = some (.var cs) ∧ i ∈ ids ∧ cc.β j = c1.β i := fun j o ho => by
    rw [List.getElem?_map, Option.map_eq_some_iff] at ho
    obtain ⟨cs, hcs, rfl⟩ := ho
    have hj : j < ids.length := by rw [← hl]; exact (List.getElem?_eq_some_iff.1 hcs).1
    refine ⟨ids[j], cs, List.getElem?_eq_getElem hj, hcs, rfl, hi j _ cs (List.getElem?_eq_getElem hj) hcs, List.getElem_mem hj, ?_⟩
    show c1.β (ids.getD j 0) = _
    rw [List.getD_eq_getElem?_getD, List.getElem?_eq_getElem hj]; rfl
  have hwr1 : ∀ b, Wr cc (css.map Ob.var) b → Wr c1 H1 b := fun b ⟨j, o, ho, hlv, _, hb⟩ => by
    obtain ⟨i, cs, q1, q2, rfl, q4, q5, q6⟩ := hget j o ho
    exact ⟨i, _, q4, rfl, hborn i q5, by rw [← q6]; exact hb⟩
  have hSc : St w0 cc (css.map Ob.var) := by
    refine ⟨by show ids.length = _; rw [List.length_map, hl], fun i hi => hi, fun j o ho => ?_, fun j k oj ok hj hk _ _ _ _ he => ?_, fun b hb => s1.base b (hwr1 b hb), s1.mlt, s1.below⟩
    · obtain ⟨i, cs, q1, q2, rfl, q4, q5, q6⟩ := hget j o ho
      refine .inl ⟨(List.getElem?_eq_some_iff.1 q1).1, ?_⟩
      rcases s1.ob i _ q4 with ⟨_, us, T, r1, r2, r3⟩ | ⟨hn, _⟩
      · have hd1 := RDL.of r2 (hcs cs (List.mem_of_getElem? q2))
        exact ⟨us, T, by rw [q6]; exact r1, RDL.rl (c := cc) hd1, by rw [q6]; exact r3⟩
      · exact absurd (hborn i q5) hn
    · obtain ⟨i, cs, q1, q2, rfl, q4, q5, q6⟩ := hget j oj hj
      obtain ⟨i', cs', q1', q2', rfl, q4', q5', q6'⟩ := hget k ok hk
      rw [q6, q6'] at he
      have hii := s1.inj i i' _ _ q4 q4' rfl rfl (hborn i q5) (hborn i' q5') he
      subst hii
      exact (List.getElem?_inj (List.getElem?_eq_some_iff.1 q1).1 hnd).1 (q1.trans q1'.symm)
  have hargs : vs.size = (ys.map (toO ids)).length ∧ ∀ (j : Nat) (x : AV), (ys.map (toO ids))[j]? = some x → ∃ u, vs[j]? = some u ∧ RV cc x u := by
    refine ⟨by rw [List.length_map, ← l1]; simp, fun j x hxj => ?_⟩
    rw [List.getElem?_map, Option.map_eq_some_iff] at hxj
    obtain ⟨y, hy, rfl⟩ := hxj
    obtain ⟨u, hu1, hu2⟩ := hval j y hy
    refine ⟨u, hu1, ?_⟩
    have hlo := List.all_eq_true.1 hd y (List.mem_of_getElem? hy)
    have deepcase : ∀ z : AV, deepE z = true → RV c1 z u → RV cc z u := fun z hz hr => .deep (hr.rdE hz)
    cases y with
    | ptr i off =>
      have him : i ∈ ids := by simpa [lentO] using hlo
      obtain ⟨rfl, hb⟩ := hu2.inv_ptr
      have hix : ids.idxOf i < ids.length := List.idxOf_lt_length_iff.2 him
      have hβ : cc.β (ids.idxOf i) = c1.β i := by
        show c1.β (ids.getD (ids.idxOf i) 0) = _
        rw [List.getD_eq_getElem?_getD, List.getElem?_eq_getElem hix, Option.getD_some, List.getElem_idxOf]
      have := RV.ptr (c := cc) (ids.idxOf i) off hix
      rw [hβ] at this
      exact this
    | _ => exact deepcase _ hlo hu2
  rw [← e1]
  refine (hA w0 cc vs hG hSc hargs).mono ?_
  rintro e w' (⟨c', u, x, objs', rfl, rfl, hst, hs', hv, hdv, css', hcl, hco, hpost⟩ | ⟨_, _, _, _, _, _, _, _, _, _, _, hp⟩)
  case inr => exact hp.elim
  refine .inl ⟨u, rfl, ?_⟩
  obtain ⟨c2, e2, s2, t2, v2⟩ := frzV_ok hs' hv
  have ht := hst.trans t2
  have hrd := v2.rdV hdv
  obtain ⟨x', hx'⟩ : ∃ x', (frzV objs' x).2 = x' := ⟨_, rfl⟩
  obtain ⟨H2, hH2⟩ : ∃ H2, (frzV objs' x).1 = H2 := ⟨_, rfl⟩
  rw [hx'] at hrd hpost
  rw [hH2] at s2 t2 ht hco
  let c3 : Cx := { w := c2.w, M := c2.M, k := c1.k, born := c1.born, β := c1.β, sv := c1.sv }
  have hsz : c1.w.heap.size ≤ c2.w.heap.size := ht.le.size
  have hle : c1.le c3 := ⟨fun _ h => h, fun _ _ => rfl, fun _ _ => rfl, hsz, fun b hb hm => ht.le.keep b hb hm⟩
  have hcell : ∀ (j i : Nat), ids[j]? = some i → ∃ cs, css'[j]? = some cs ∧ (setAll H1 ids css')[i]? = some (.var cs) ∧ H2[j]? = some (.var cs) ∧ cs.all deep1 = true := fun j i hj => by
    have hjc : j < css'.length := by rw [hcl, hl]; exact (List.getElem?_eq_some_iff.1 hj).1
    have := hco j css'[j] (List.getElem?_eq_getElem hjc)
    exact ⟨css'[j], List.getElem?_eq_getElem hjc, setAll_at ids css' H1 j i _ hnd hlt hj (List.getElem?_eq_getElem hjc), this.1, this.2⟩
  have hwr3 : ∀ b, Wr c3 (setAll H1 ids css') b → Wr c1 H1 b := fun b ⟨i, o, ho, hlv, hb, he⟩ => by
    by_cases him : i ∈ ids
    · obtain ⟨j, hj⟩ := List.getElem?_of_mem him
      have hjc : j < css.length := by rw [hl]; exact (List.getElem?_eq_some_iff.1 hj).1
      exact ⟨i, _, hi j i css[j] hj (List.getElem?_eq_getElem hjc), rfl, hb, he⟩
    · rw [setAll_other ids css' H1 i him] at ho
      exact ⟨i, o, ho, hlv, hb, he⟩
  have hstep : Step c1 H1 c3 (setAll H1 ids css') :=
    ⟨hle, ht.os, ht.tape, ht.output, fun b hb hn => ht.same b hb (fun h => hn (hwr1 b h)), fun b hb hm => ht.mm b hb hm,
      fun b hb hn hm => ht.mw b hb (fun h => hn (hwr1 b h)) hm, fun b hb => .inl (hwr3 b hb), Nat.le_refl _, fun _ _ h => h⟩
  have hlive : ∀ (i : Nat) (o : Ob), (setAll H1 ids css')[i]? = some o → o.live = true → ∃ o1, H1[i]? = some o1 ∧ o1.live = true := fun i o ho hlv => by
    by_cases him : i ∈ ids
    · obtain ⟨j, hj⟩ := List.getElem?_of_mem him
      have hjc : j < css.length := by rw [hl]; exact (List.getElem?_eq_some_iff.1 hj).1
      exact ⟨_, hi j i css[j] hj (List.getElem?_eq_getElem hjc), rfl⟩
    · rw [setAll_other ids css' H1 i him] at ho
      exact ⟨o, ho, hlv⟩
  have hS3 : St w0 c3 (setAll H1 ids css') := by
    refine ⟨by show c1.k = _; rw [setAll_len, s1.k], s1.bl, fun i o ho => ?_, fun i j oi oj hi' hj' li lj ni nj he => ?_, fun b hb => s1.base b (hwr3 b hb), fun b hb => s2.mlt b hb, s2.below⟩
    · by_cases him : i ∈ ids
      · obtain ⟨j, hj⟩ := List.getElem?_of_mem him
        obtain ⟨cs, q1, q2, q3, q4⟩ := hcell j i hj
        rw [q2] at ho; cases ho
        have hjl : j < ids.length := (List.getElem?_eq_some_iff.1 hj).1
        have hβ : c2.β j = c1.β i := by
          rw [ht.le.β j hjl]
          show c1.β (ids.getD j 0) = _
          rw [List.getD_eq_getElem?_getD, hj]; rfl
        refine .inl ⟨hborn i him, ?_⟩
        rcases s2.ob j _ q3 with ⟨_, us, T, r1, r2, r3⟩ | ⟨hn, _⟩
        · exact ⟨us, T, by rw [← hβ]; exact r1, RDL.rl (c := c3) (show RDL c2.w c2.M cs us from RDL.of (c := c2) r2 q4), by show c2.M (c1.β i); rw [← hβ]; exact r3⟩
        · exact absurd (ht.le.born j hjl) hn
      · rw [setAll_other ids css' H1 i him] at ho
        refine (s1.ob i o ho).le hle (fun h => h) (fun hlv hbn => ?_)
        have hw : Wr c1 H1 (c1.β i) := ⟨i, o, ho, hlv, hbn, rfl⟩
        have hnw : ¬ Wr cc (css.map Ob.var) (c1.β i) := fun ⟨j, oj, hoj, _, _, hb⟩ => by
          obtain ⟨i', cs, q1, q2, rfl, q4, q5, q6⟩ := hget j oj hoj
          rw [q6] at hb
          exact him (s1.inj i' i _ _ q4 ho rfl hlv (hborn i' q5) hbn hb ▸ q5)
        exact ⟨ht.same _ (s1.blt hw) hnw, ht.mw _ (s1.blt hw) hnw (s1.live_M hw)⟩
    · obtain ⟨o1, a1, a2⟩ := hlive i oi hi' li
      obtain ⟨o2, b1, b2⟩ := hlive j oj hj' lj
      exact s1.inj i j o1 o2 a1 b1 a2 b2 ni nj he
  have htt := t1.trans hstep
  exact ⟨⟨c3, _, _, e2, htt, hS3, (hF.le htt.le).putF (fun t h => by rw [hN]; exact hdN t h) (.deep hrd), by rw [size_put, hN], by rw [defers_put, hds],
    hK x' css' hcl (fun cs hcs' => by obtain ⟨j, hj⟩ := List.getElem?_of_mem hcs'; exact (hco j cs hj).2) hpost⟩⟩
def AM (P:Program) (G:Gs) (f:FuncId) (args:List AV) (cs:List AV) (post:AV→List AV→Prop):Prop:=AMs P G f args [cs] (fun x css=>∃ cs',css=[cs']∧post x cs')
theorem AM.mono {f:FuncId} {args:List AV} {cs:List AV} {post post':AV→List AV→Prop} (h:AM P G f args cs post) (hp:∀ x y,post x y→post' x y):AM P G f args cs post':=
 AMs.mono h fun x css ⟨cs',e,h⟩=>⟨cs',e,hp _ _ h⟩
def finM (post:AV→List AV→Prop) (x:AV) (H:List Ob):Prop:=deepV (frzV H x).2=true∧∃ cs,(frzV H x).1[0]? = some (.var cs)∧cs.all deep1=true∧post (frzV H x).2 cs
theorem AM.go (hmix:P.follows .mixedOrders=true) {f:FuncId} {N:Nat} {ac:ACode} {sl:List RSlot} (hf:Fun P f N ac sl) {args:List AV} {cs:List AV} {post:AV→List AV→Prop} (hN:args.length≤N)
  (h:aw P G N ac (retQ sl (finM post)) (argF args) [.var cs]):AM P G f args cs post:=by
 rw [aw_is] at h
 refine AC.mono (AC.of hmix hf hN h) (fun x H hq=>?_)
 obtain ⟨h1,cs',h2,h3,h4⟩:=hq
 exact ⟨h1,[cs'],rfl,fun j cs0 hj=>by
  cases j with
  | zero=>cases hj; exact ⟨h2,h3⟩
  | succ j=>simp at hj,cs',rfl,h4⟩
theorem SC.lent {G:World→Prop} {N:Nat} {F:Fr} {H:List Ob} {K:Fr→List Ob→Prop} {d:Option Nat} (hdN:∀ t,d=some t→t < N) {f:FuncId} {args:List Opd} (xs:List AV) (hx:evA F args=some xs) (i:Nat) (cs:List AV) {post:AV→List AV→Prop}
  (hi:(frzT H xs).1[i]? = some (.var cs)) (hcs:cs.all deep1=true) (hA:AM P (.np G) f ((frzT H xs).2.map (toO [i])) cs post) (hp:∃ off,AV.ptr i off ∈ (frzT H xs).2) (hd:(frzT H xs).2.all (lentO [i])=true)
  (hK:∀ x cs',cs'.all deep1=true→post x cs'→K (putF F d x) ((frzT H xs).1.set i (.var cs'))) {a:Tag K}:SC P (.np G) N d f args F H K a:=by
 refine SCall.lendM hdN hx (ids:=[i]) (css:=[cs]) rfl (by simp) (fun j k cs0 hj hc=>?_) (fun cs0 h0=>by rw [List.mem_singleton.1 h0]; exact hcs) (fun k hk=>by rw [List.mem_singleton.1 hk]; exact hp) hA hd (fun x css' hl hall hpost=>?_)
 ·cases j with
  | zero=>cases hj; cases hc; exact hi
  | succ j=>simp at hj
 ·obtain ⟨cs',rfl,hpost⟩:=hpost
  exact hK x cs' (hall cs' (by simp)) hpost
theorem dsem_bsl {N:Nat} {F:Fr} {H:List Ob} {K:Fr→List Ob→Prop} (base j d e sz n:Nat) (zs:List AV) (ps:List (Nat × Opd)):dsem P G N base j (.bsl d e sz n zs ps) F H K=(match evP F ps with
  | some xs=>match fillA (fun i=>some (i * sz,sz)) zs xs with
   | some cs=>(cs.map (dz H)).all deep1=true∧K (upd F d (.sl n (cs.map (dz H)))) H
   | none=>False
  | none=>False):=by unfold dsem; rfl
end
attribute [simp ↓] dsem_bsl
theorem get_app_add {α:Type} (H L:List α) (k:Nat):(H++L)[H.length + k]? = L[k]?:=by rw [List.getElem?_append_right (by omega)]; congr 1; omega
theorem get_app0 {α:Type} (H L:List α):(H++L)[H.length]? = L[0]?:=get_app_add H L 0
theorem set_app_add {α:Type} (H L:List α) (k:Nat) (o:α):(H++L).set (H.length + k) o=H++L.set k o:=by rw [List.set_append_right _ _ (by omega)]; congr 2; omega
theorem set_app0 {α:Type} (H L:List α) (o:α):(H++L).set H.length o=H++L.set 0 o:=set_app_add H L 0 o
theorem get_set_app_add {α:Type} (H L:List α) (i k:Nat) (o:α):(H.set i o++L)[H.length + k]? = L[k]?:=by rw [List.getElem?_append_right (by simp)]; congr 1; simp
theorem get_set_app0 {α:Type} (H L:List α) (i:Nat) (o:α):(H.set i o++L)[H.length]? = L[0]?:=get_set_app_add H L i 0 o
attribute [simp] get_app_add get_app0 set_app_add set_app0 get_set_app_add get_set_app0 List.getElem?_cons_zero List.getElem?_cons_succ
end Ab
end Go.Proofs.YtgddkgbidhhheaaGreatDoor
namespace Go.Proofs.YtgddkgbidhhheaaGreatDoor
open Go.RowKit
namespace Ab
mutual
def ren (r:Nat→Nat):AV→AV
 | .ptr i off=>.ptr (r i) off
 | .row i=>.row (r i)
 | .agg cs=>.agg (renL r cs)
 | .tup cs=>.tup (renL r cs)
 | .clo f cs=>.clo f (renL r cs)
 | .v x=>.v x
 | .sl n cs=>.sl n cs
 | .ep cs off=>.ep cs off
 | .ifc t x=>.ifc t x
def renL (r:Nat→Nat):List AV→List AV
 | []=>[]
 | x :: xs=>ren r x :: renL r xs
end
mutual
def okR (ids:List Nat):AV→Bool
 | .ptr i _=>ids.contains i
 | .row i=>ids.contains i
 | .agg cs=>okL ids cs
 | .tup cs=>okL ids cs
 | .clo _ cs=>okL ids cs
 | .v _=>true
 | .sl _ _=>true
 | .ep _ _=>true
 | .ifc _ _=>true
def okL (ids:List Nat):List AV→Bool
 | []=>true
 | x :: xs=>okR ids x && okL ids xs
end
def renO (r:Nat→Nat):Ob→Ob
 | .var cs=>.var (renL r cs)
 | .own e sz n cs=>.own e sz n cs
 | .fro n cs=>.fro n cs
 | .gone=>.gone
 | .mp kd es=>.mp kd es
 | .tvar T cs=>.tvar T (renL r cs)
def okO (ids:List Nat):Ob→Bool
 | .var cs=>okL ids cs
 | .tvar _ cs=>okL ids cs
 | _=>true
def setO:List Ob→List Nat→List Ob→List Ob
 | H,[],os=>H++os
 | H,i :: is,o :: os=>setO (H.set i o) is os
 | H,_ :: _,[]=>H
def up (ids:List Nat) (n j:Nat):Nat:=match ids[j]? with
 | some i=>i
 | none=>n + (j - ids.length)
def objsOf (H:List Ob) (ids:List Nat):List Ob:=ids.map fun i=>renO (fun k=>ids.idxOf k) (H.getD i .gone)
def backO (H:List Ob) (ids:List Nat) (os:List Ob):List Ob:=setO H ids (os.map (renO (up ids H.length)))
section
variable {P:Program} {G:Gs}
end
attribute [simp] ren renL okR okL renO okO setO up objsOf backO
end Ab
end Go.Proofs.YtgddkgbidhhheaaGreatDoor
