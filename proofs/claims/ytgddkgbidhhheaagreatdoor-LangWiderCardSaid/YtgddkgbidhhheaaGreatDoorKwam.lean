/- Texts joined: Abz Aca. -/
import Derived.Test.YtgddkgbidhhheaaGreatDoorKwal
set_option linter.unusedVariables false
set_option linter.unusedSimpArgs false
namespace Go.Proofs.YtgddkgbidhhheaaGreatDoor
open Go.RowKit
namespace Ab
section
variable {P:Program} {G:Gs}
theorem opsS_ok {N : Nat} {ops : Array Oper} {w0 : World} (hG : G.inv w0) {ds : List Deferred} {cs : List Frame} {Q : Exit → Act → List Frame → World → Prop} : ∀ (l : List Oper) (k : Nat) (al : List AOper), (∀ j, l[j]? = ops[k + j]?) → compOps P N .plain ops l = some al →
    ∀ (c : Cx) (a : Act) (F : Fr) (H : List Ob) (K : Fr → List Ob → Prop), St w0 c H → RF c F a → a.tmps.size = N → a.defers = ds → awpOps P G N al K F H →
    (∀ ch a' w', PanAt G w0 ds c H ch a' w' → Q (.panic ch) a' cs w') → (∀ a' w', Fin w0 N ds c H K a' w' → Q .normal a' cs w') → wpOpsS P ops Q (List.range' k l.length) a cs c.w
  | [], k, al, hl, h, c, a, F, H, K, hS, hF, hN, hds, hK, hQp, hQ => by
    cases h
    exact hQ _ _ ⟨c, F, H, rfl, .refl c H, hS, hF, hN, hds, hK⟩
  | o :: l, k, al, hl, h, c, a, F, H, K, hS, hF, hN, hds, hK, hQp, hQ => by
    simp only [compOps] at h
    split at h
    · rename_i ao asx hao has
      cases h
      obtain ⟨g, op, hg, hop, hdst, rfl⟩ := compOper_inv hao
      simp only [awpOps] at hK
      have hko : ops[k]? = some o := by have := hl 0; simpa using this.symm
      have hl' : ∀ j, l[j]? = ops[k + 1 + j]? := fun j => by have := hl (j + 1); rw [List.getElem?_cons_succ] at this; rw [this]; congr 1; omega
      rw [List.length_cons, List.range'_succ]
      simp only [wpOpsS, hko]
      rcases guard_ok hF hg hK with ⟨hw, hK⟩ | ⟨hw, hK⟩
      · rw [if_pos hw]
        have hwp := Oper.wp_mono (K' := fun a' w' => wpOpsS P ops Q (List.range' (k + 1) l.length) a' cs w') (fun a' w' hfin => by
          obtain ⟨c', F', H', rfl, q2, q3, q4, q5, q6, q7⟩ := hfin.ex
          exact opsS_ok hG l (k + 1) asx hl' has c' a' F' H' K q3 q4 q5 q6 q7 (fun ch a2 w2 h2 => hQp _ _ _ (h2.trans q2)) (fun a2 w2 h2 => hQ _ _ (h2.trans q2))) (compOp_ok hop w0 ds c a F H _ (fun e a' w' => Q e a' cs w') hG hS hF hN hds hQp hK)
        unfold Oper.wp at hwp
        split
        · rename_i w' hr
          rw [hr] at hwp
          exact hwp.elim
        · exact hwp
      · rw [if_neg (by rw [hw]; simp)]
        exact opsS_ok hG l (k + 1) asx hl' has c _ (skipF F o.dst) H K hS (skip_ok hF _ (by rw [hN]; exact hdst)) (by rw [size_put, hN]) (by rw [defers_put, hds]) hK hQp hQ
    · cases h
structure FunR (P:Program) (f:FuncId) (N d:Nat) (al:List AOper) (ac:ACode):Prop where
 ex:∃ fn id ops c2 o l m,P.funcs[f]? = some fn∧fn.body=some (.seq (.region id ops false) c2)∧fn.ntmps=N∧ops.toList=o :: l∧o.op=.call { callee:=.builtin .recover,args:=#[],argTypes:=#[] }∧o.guard=none∧o.dst=some d∧d < N ∧
  compOps P N .plain ops l=some al∧compCode P m N c2=some ac∧fn.results = #[]∧(fn.name == "runtime.NumGoroutine")=false
def isRec (o:Oper):Option Nat:=
 match o.op,o.guard,o.dst with
 | .call ci,none,some d=>match ci.callee with
  | .builtin .recover=>if ci.args.isEmpty && ci.argTypes.isEmpty then some d else none
  | _=>none
 | _,_,_=>none
theorem isRec_is {o:Oper} {d:Nat} (h:isRec o=some d):o.op=.call { callee:=.builtin .recover,args:=#[],argTypes:=#[] }∧o.guard=none∧o.dst=some d:=by
 unfold isRec at h
 split at h
 ·rename_i ci d' h1 h2 h3
  split at h
  ·rename_i h4
   split at h
   ·rename_i h5
    cases h
    simp only [Bool.and_eq_true,Array.isEmpty_iff] at h5
    refine ⟨?_,h2,h3⟩
    obtain ⟨a,b,c⟩:=ci
    simp only at h4 h5
    rw [h1,h4,h5.1,h5.2]
   ·cases h
  ·cases h
 ·cases h
def funR (P:Program) (f:FuncId) (m:Bool:=false):Option (Nat × Nat × List AOper × ACode):=
 match P.funcs[f]? with
 | some fn=>if (fn.name == "runtime.NumGoroutine")=true then none else match fn.body with
  | some (.seq (.region _ ops false) c2)=>match ops.toList with
   | o :: l=>match isRec o with
    | some d=>if d < fn.ntmps∧fn.results.isEmpty=true then match compOps P fn.ntmps .plain ops l,compCode P m fn.ntmps c2 with
     | some al,some ac=>some (fn.ntmps,d,al,ac)
     | _,_=>none
     else none
    | none=>none
   | []=>none
  | _=>none
 | none=>none
theorem FunR.of {f:FuncId} {N d:Nat} {al:List AOper} {ac:ACode} {m:Bool} (h:funR P f m=some (N,d,al,ac)):FunR P f N d al ac:=by
 unfold funR at h
 split at h
 ·rename_i fn hf
  split at h
  ·cases h
  ·rename_i hnm
   split at h
   ·rename_i id ops c2 hb
    split at h
    ·rename_i o l hl
     split at h
     ·rename_i d' hr
      split at h
      ·rename_i hd
       split at h
       ·rename_i al' ac' h1 h2
        cases h
        obtain ⟨r1,r2,r3⟩:=isRec_is hr
        exact ⟨fn,id,ops,c2,o,l,m,hf,hb,rfl,hl,r1,r2,r3,hd.1,h1,h2,by simpa using hd.2,by simpa using hnm⟩
       ·cases h
      ·cases h
     ·cases h
    ·cases h
   ·cases h
 ·cases h
def recV:AMode→AV × AMode
 | .ret=>(.v .nilIface,.ret)
 | .pan x=>(x,.rcv)
 | .rcv=>(.v .nilIface,.rcv)
theorem DAC.rcv (hmix : P.follows .mixedOrders = true) {g : FuncId} {N d : Nat} {al : List AOper} {ac : ACode} (hf : FunR P g N d al ac) (hpn : ∀ x H, ¬ G.pan x H) {xs : List AV} {m : AMode} {H : List Ob} {K : AMode → List Ob → Prop} (hN : xs.length ≤ N)
    (h : awpOps P G N al (awp P G N ac (retQ [] (fun _ H' => K (recV m).2 H'))) (upd (argF xs) d (recV m).1) H) : DAC P G g xs m H K := by
  obtain ⟨fn, id, ops, c2, o, l, mm, h1, h2, h3, h4, h5, h6, h7, h8, h9, h10, h11, h12⟩ := hf.ex
  refine ⟨⟨fn, _, h1, h12, h2⟩, ?_⟩
  intro w0 c vs u hG hS hm ⟨hvs, hargs⟩
  have hsz : (vs ++ Array.replicate (fn.ntmps - vs.size) undef).size = N := by simp; omega
  have hF : RF c (argF xs) { tmps := vs ++ Array.replicate (fn.ntmps - vs.size) undef, defers := [] } := fun t x ht => by
    obtain ⟨u, hu, hr⟩ := hargs t x ht
    refine ⟨u, ?_, hr⟩
    show (vs ++ Array.replicate (fn.ntmps - vs.size) undef)[t]? = _
    rw [Array.getElem?_append_left (Array.getElem?_eq_some_iff.1 hu).1]; exact hu
  refine callsD_of_wpS h1 h2 (fun c₀ cs hc0 => ?_)
  have hsize : ops.size = l.length + 1 := by rw [← Array.length_toList, h4, List.length_cons]
  have ho0 : ops[0]? = some o := by rw [← Array.getElem?_toList, h4]; rfl
  have hlj : ∀ j, l[j]? = ops[1 + j]? := fun j => by rw [← Array.getElem?_toList, h4, Nat.add_comm, List.getElem?_cons_succ]
  refine wpS_seq (wpS_region ?_)
  rw [List.range_eq_range', hsize, List.range'_succ]
  simp only [wpOpsS, ho0]
  rw [if_pos (by simp [Region.wanted, h6])]
  have hrun : ∀ a : Act, (execOp a.eval o).run P c.w = .ok .recover c.w := fun a => by simp [execOp, h5, resolve, invoke, builtin]
  rw [hrun]
  simp only
  have go : ∀ (u' : FrameMode) (v : Value), ModeIs c (recV m).2 u' → RV c (recV m).1 v →
      wpOpsS P ops (Exit.thenS (Code.wpS P c2 (bodyPostS P fn c₀ cs fun e u' w' => ∃ (v : Value) (c' : Cx) (H' : List Ob) (m' : AMode), e = .returned v ∧ c'.w = w' ∧ Step c H c' H' ∧ St w0 c' H' ∧ ModeIs c' m' u' ∧ K m' H')) (bodyPostS P fn c₀ cs fun e u' w' => ∃ (v : Value) (c' : Cx) (H' : List Ob) (m' : AMode), e = .returned v ∧ c'.w = w' ∧ Step c H c' H' ∧ St w0 c' H' ∧ ModeIs c' m' u' ∧ K m' H')) (List.range' (0 + 1) l.length)
        (Act.put { tmps := vs ++ Array.replicate (fn.ntmps - vs.size) undef, defers := [] } o.dst v) ({ c₀ with mode := u' } :: cs) c.w := by
    intro u' v hmu hv
    rw [h7]
    refine opsS_ok (G := G) (ds := []) hG l 1 al hlj h9 c _ (upd (argF xs) d (recV m).1) H _ hS (hF.put (by rw [hsz]; exact h8) hv) (by rw [size_put]; exact hsz) (by rw [defers_put]) h (fun ch a' w' ⟨c', H', u, x, p1, p2, p3, p4, p5, p6, p7⟩ => (hpn _ _ p6).elim) (fun a' w' hfin => ?_)
    obtain ⟨c', F', H', rfl, q2, q3, q4, q5, q6, q7⟩ := hfin.ex
    show Code.wpS P c2 _ a' ({ c₀ with mode := u' } :: cs) c'.w
    refine wpS_of_wp (wp_mono (compCode_ok hmix c2 ac h10 _ F' H' q7 w0 [] c' a' hG q3 q4 q5 q6) (fun e a2 w2 hfin => ?_))
    rcases hfin with ⟨ch, rfl, c', H', u, x, p1, p2, p3, p4, p5, p6, p7⟩ | hfin
    · exact (hpn _ _ p6).elim
    obtain ⟨c2', F2, H2, rfl, r2, r3, r4, r5, r6, r7⟩ := hfin.ex
    have key : (∃ xs, rgets F2 H2 [] = some xs ∧ K (recV m).2 H2) → a2.defers = [] ∧ ∃ u'', ({ c₀ with mode := u' } :: cs : List Frame) = { c₀ with mode := u'' } :: cs ∧ ∃ v, (results fn a2.tmps).run P c2'.w = .ok v c2'.w ∧ ∃ (v' : Value) (c' : Cx) (H' : List Ob) (m' : AMode), Ending.returned v = .returned v' ∧ c'.w = c2'.w ∧ Step c H c' H' ∧ St w0 c' H' ∧ ModeIs c' m' u'' ∧ K m' H' := fun ⟨xs, hxs, hp⟩ => by
      obtain ⟨v, hv1, hv2⟩ := run_results (P := P) (sl := []) (fn := fn) (by rw [h11]; rfl) r3 r4 hxs
      exact ⟨r6, u', rfl, v, hv1, v, c2', H2, (recV m).2, rfl, rfl, q2.trans r2, r3, hmu.le (q2.trans r2).le, hp⟩
    cases e with
    | normal => exact key r7
    | ret => exact key r7
    | exit id => exact r7.elim
    | goto l => exact r7.elim
    | panic ch => exact r7.elim
    | outgrown => exact r7.elim
  have same : ∀ u', c₀.mode = u' → ({ c₀ with mode := u' } : Frame) = c₀ := fun u' h => by subst h; rfl
  cases m with
  | ret =>
    cases hm
    have hrd : recoverD (c₀ :: cs) = none := by simp only [recoverD, hc0]
    rw [hrd]
    simp only
    have := go .returning .nilIface rfl (.deep (.v _ rfl))
    rw [same _ hc0] at this
    exact this
  | pan x =>
    obtain ⟨v, rfl, hr⟩ := hm
    have hrd : recoverD (c₀ :: cs) = some (v, { c₀ with mode := .panicking [{ v := v, recovered := true }] } :: cs) := by simp only [recoverD, hc0]
    rw [hrd]
    simp only
    exact go (.panicking [{ v := v, recovered := true }]) v ⟨v, rfl⟩ (.deep hr)
  | rcv =>
    obtain ⟨v, rfl⟩ := hm
    have hrd : recoverD (c₀ :: cs) = none := by simp only [recoverD, hc0]
    rw [hrd]
    simp only
    have := go (.panicking [{ v := v, recovered := true }]) .nilIface ⟨v, rfl⟩ (.deep (.v _ rfl))
    rw [same _ hc0] at this
    exact this
theorem hid_x (P:Program) (G:Gs) (okD:DL→Prop) (N:Nat):Nonempty { f:XCode→XQ→DL→Fr→List Ob→Prop // f=xwp P G okD N }:=⟨⟨_,rfl⟩⟩
noncomputable def xw (P:Program) (G:Gs) (okD:DL→Prop) (N:Nat):XCode→XQ→DL→Fr→List Ob→Prop:=(Classical.choice (hid_x P G okD N)).1
variable {okD:DL→Prop} {N:Nat} {Q:XQ} {ls:DL} {F:Fr} {H:List Ob}
theorem xw_is:xw P G okD N=xwp P G okD N:=(Classical.choice (hid_x P G okD N)).2
theorem xw_base (a:ACode):xw P G okD N (.base a) Q ls F H=aw P G N a (Q ls) F H:=by rw [xw_is,aw_is]; rfl
theorem xw_seq (a b:XCode):xw P G okD N (.seq a b) Q ls F H=xw P G okD N a (thenX (xw P G okD N b Q) Q) ls F H:=by rw [xw_is]; rfl
theorem xw_cond (p:Opd) (a b:XCode):xw P G okD N (.cond p a b) Q ls F H=condP (opd F p) (xw P G okD N a Q ls F H) (xw P G okD N b Q ls F H) .mk .mk:=by rw [xw_is]; rfl
theorem xw_block (id:Nat) (a:XCode):xw P G okD N (.block id a) Q ls F H=xw P G okD N a (inBlockX id Q) ls F H:=by rw [xw_is]; rfl
theorem xw_dfr (ops:List AOper) (x:Opd):xw P G okD N (.dfr ops x) Q ls F H=aops P G N ops (dfrK okD Q ls x) F H:=by rw [xw_is,aops_is]; rfl
theorem hid_t (P:Program) (G:Gs) (N:Nat):Nonempty { f:STree→(Fr→List Ob→Prop)→Fr→List Ob→Prop // f=treeW P G N }:=⟨⟨_,rfl⟩⟩
noncomputable def tw (P:Program) (G:Gs) (N:Nat):STree→(Fr→List Ob→Prop)→Fr→List Ob→Prop:=(Classical.choice (hid_t P G N)).1
theorem tw_is:tw P G N=treeW P G N:=(Classical.choice (hid_t P G N)).2
def tws (P:Program) (G:Gs) (N:Nat):List (AOper × STree)→(Fr→List Ob→Prop)→Fr→List Ob→Prop
 | [],K,F,H=>True
 | (o,t) :: r,K,F,H=>guardP o.guard F (sem P G N o.op F H (tw P G N t K)) (tw P G N t K (skipF F o.dst) H)∧tws P G N r K F H
theorem tws_is:∀ (l:List (AOper × STree)) (K:Fr→List Ob→Prop) (F:Fr) (H:List Ob),tws P G N l K F H=treesW P G N l K F H
 | [],K,F,H=>by unfold tws treesW; rfl
 | (o,t) :: r,K,F,H=>by unfold tws treesW; rw [tws_is r,tw_is]
theorem tw_fin {K:Fr→List Ob→Prop}:tw P G N .fin K F H=K F H:=by rw [tw_is]; unfold treeW; rfl
theorem tw_node {K:Fr→List Ob→Prop} (l:List (AOper × STree)):tw P G N (.node l) K F H=tws P G N l K F H:=by rw [tw_is,tws_is]; unfold treeW; rfl
theorem tws_nil {K:Fr→List Ob→Prop}:tws P G N [] K F H=True:=by unfold tws; rfl
theorem tws_cons {K:Fr→List Ob→Prop} (g:Option (Nat × Bool)) (d:Option Nat) (o:AOp) (t:STree) (r:List (AOper × STree)):tws P G N ((⟨g,d,o⟩,t) :: r) K F H=(guardP g F (sem P G N o F H (tw P G N t K)) (tw P G N t K (skipF F d) H)∧tws P G N r K F H):=by
 conv=>lhs; unfold tws
theorem xw_tree (t:STree):xw P G okD N (.tree t) Q ls F H=tw P G N t (Q ls .normal) F H:=by rw [xw_is,tw_is]; rfl
def LB (P:Program) (G:Gs) (N:Nat) (l:Nat) (body:ACode) (Q:Exit→Fr→List Ob→Prop) (_:Tag body) (_:Tag Q) (F:Fr) (H:List Ob):Prop:=LabI P G N l body Q F H
theorem xw_sco (pre:ACode) (l:Nat) (body:ACode):xw P G okD N (.sco pre l body) Q ls F H=aw P G N pre (thenA (LB P G N l body (Q ls) .mk .mk) (noGo (Q ls))) F H:=by rw [xw_is,aw_is]; rfl
theorem LB.go {l:Nat} {body:ACode} {Q:Exit→Fr→List Ob→Prop} (I:Nat→Fr→List Ob→Prop) (n:Nat) (h0:I n F H) (hr:∀ n F H,I n F H→aw P G N body (gotoA l (fun F' H'=>∃ m,m < n∧I m F' H') Q) F H) {a:Tag body} {b:Tag Q}:LB P G N l body Q a b F H:=by
 rw [aw_is] at hr; exact ⟨I,n,h0,hr⟩
theorem thenX_normal (n:DL→Fr→List Ob→Prop):thenX n Q ls .normal F H=n ls F H:=by unfold thenX; rfl
theorem thenX_ret (n:DL→Fr→List Ob→Prop):thenX n Q ls .ret F H=Q ls .ret F H:=by unfold thenX; rfl
theorem thenX_exit (n:DL→Fr→List Ob→Prop) (i:Nat):thenX n Q ls (.exit i) F H=Q ls (.exit i) F H:=by unfold thenX; rfl
theorem aw_goto' (l:Nat) {Q:Exit→Fr→List Ob→Prop}:aw P G N (.goto l) Q F H=Q (.goto l) F H:=by rw [aw_is]; rfl
theorem thenA_goto (n:Fr→List Ob→Prop) (Q:Exit→Fr→List Ob→Prop) (i:Nat):thenA n Q (.goto i) F H=Q (.goto i) F H:=by unfold thenA; rfl
theorem AC.goX (hmix:P.follows .mixedOrders=true) {f:FuncId} {N:Nat} {xc:XCode} {sl:List RSlot} (hf:FunX P f N xc sl) {Gi:Gs} (hi:∀ w,G.inv w→Gi.inv w) {okD:DL→Prop} (ho:okD []) {args:List AV} {objs:List Ob} {post:AV→List Ob→Prop} (hN:args.length≤N)
  (hp:endP P G Gi okD sl post) (h:xw P Gi okD N xc (endX P G sl post) [] (argF args) objs):AC P G f args objs post:=AC.ofX hmix hf hi ho hN hp (by rw [xw_is] at h; exact h)
theorem DAC.go (hmix:P.follows .mixedOrders=true) {g:FuncId} {N:Nat} {ac:ACode} (hf:Fun P g N ac []) (hk:∀ t,G.keep t=none) (hpn:∀ x H,¬ G.pan x H) {xs:List AV} {m:AMode} {H:List Ob} {K:AMode→List Ob→Prop} (hN:xs.length≤N)
  (h:aw P G N ac (retQ [] (fun _ H'=>K m H')) (argF xs) H):DAC P G g xs m H K:=DAC.of hmix hf hk hpn hN (by rw [aw_is] at h; exact h)
theorem DAC.goR (hmix:P.follows .mixedOrders=true) {g:FuncId} {N d:Nat} {al:List AOper} {ac:ACode} (hf:FunR P g N d al ac) (hpn:∀ x H,¬ G.pan x H) {xs:List AV} {m:AMode} {H:List Ob} {K:AMode→List Ob→Prop} (hN:xs.length≤N)
  (h:aops P G N al (aw P G N ac (retQ [] (fun _ H'=>K (recV m).2 H'))) (upd (argF xs) d (recV m).1) H):DAC P G g xs m H K:=DAC.rcv hmix hf hpn hN (by rw [aw_is,aops_is] at h; exact h)
end
attribute [simp ↓] xw_tree tw_fin tw_node tws_nil tws_cons xw_base xw_seq xw_cond xw_block xw_dfr xw_sco thenX_normal thenX_ret thenX_exit inBlockX endX dfrK gotoA noGo aw_goto' thenA_goto
attribute [simp] recV settleA
end Ab
end Go.Proofs.YtgddkgbidhhheaaGreatDoor
set_option linter.unusedVariables false
set_option linter.unusedSimpArgs false
namespace Go.Proofs.YtgddkgbidhhheaaGreatDoor
open Go.RowKit
namespace Ab
section
variable {P:Program} {G:Gs}
theorem AC.lendP {f:FuncId} {H:List Ob} {xs:List AV} {ids:List Nat} {css:List (List AV)} (hl:css.length=ids.length) (hnd:ids.Nodup) (hi:∀ (j i:Nat) (cs:List AV),ids[j]? = some i→css[j]? = some cs→H[i]? = some (.var cs))
  (hcs:∀ cs ∈ css,cs.all deep1=true) (hp:∀ i ∈ ids,∃ off,AV.ptr i off ∈ xs) {Gc:Gs} (hG:∀ w,G.inv w→Gc.inv w) {post:AV→List (List AV)→Prop} (hA:AMs P Gc f (xs.map (toO ids)) css post) (hd:xs.all (lentO ids)=true)
  (hpan:∀ x objs',Gc.pan x objs'→∃ css':List (List AV),css'.length=css.length∧(∀ (j:Nat) (cs:List AV),css'[j]? = some cs→objs'[j]? = some (.var cs)∧cs.all deep1=true)∧G.pan x (setAll H ids css')) :
  AC P G f xs H (fun x H2=>∃ css',css'.length=css.length∧(∀ cs ∈ css',cs.all deep1=true)∧deepV x=true∧post x css'∧H2=setAll H ids css'):=by
 intro w0 c1 vs hGw s1 ⟨hvl,hvs⟩
 have hval:∀ (j:Nat) (y:AV),xs[j]? = some y→∃ u,vs[j]? = some u∧RV c1 y u:=hvs
 have hborn:∀ i ∈ ids,c1.born i:=fun i hii=>by
  obtain ⟨off,hm⟩:=hp i hii
  obtain ⟨j,hj⟩:=List.getElem?_of_mem hm
  obtain ⟨u,_,hu⟩:=hval j _ hj
  exact hu.inv_ptr.2
 have hlt:∀ i ∈ ids,i < H.length:=fun i hii=>by
  obtain ⟨j,hj⟩:=List.getElem?_of_mem hii
  have hjc:j < css.length:=by rw [hl]; exact (List.getElem?_eq_some_iff.1 hj).1
  exact (List.getElem?_eq_some_iff.1 (hi j i css[j] hj (List.getElem?_eq_getElem hjc))).1
 let cc:Cx:={ w:=c1.w,M:=c1.M,k:=ids.length,born:=fun j=>j < ids.length,β:=fun j=>c1.β (ids.getD j 0),sv:=fun _=>undef }
 have hget:∀ (j:Nat) (o:Ob),(css.map Ob.var)[j]? = some o→∃ i cs,ids[j]? = some i∧css[j]? = some cs∧o=.var cs∧H[i]? = some (.var cs)∧i ∈ ids∧cc.β j=c1.β i:=fun j o ho=>by
  rw [List.getElem?_map,Option.map_eq_some_iff] at ho
  obtain ⟨cs,hcs,rfl⟩:=ho
  have hj:j < ids.length:=by rw [← hl]; exact (List.getElem?_eq_some_iff.1 hcs).1
  refine ⟨ids[j],cs,List.getElem?_eq_getElem hj,hcs,rfl,hi j _ cs (List.getElem?_eq_getElem hj) hcs,List.getElem_mem hj,?_⟩
  show c1.β (ids.getD j 0)=_
  rw [List.getD_eq_getElem?_getD,List.getElem?_eq_getElem hj]; rfl
 have hwr1:∀ b,Wr cc (css.map Ob.var) b→Wr c1 H b:=fun b ⟨j,o,ho,hlv,_,hb⟩=>by
  obtain ⟨i,cs,q1,q2,rfl,q4,q5,q6⟩:=hget j o ho
  exact ⟨i,_,q4,rfl,hborn i q5,by rw [← q6]; exact hb⟩
 have hSc:St w0 cc (css.map Ob.var):=by
  refine ⟨by show ids.length=_; rw [List.length_map,hl],fun i hi=>hi,fun j o ho=>?_,fun j k oj ok hj hk _ _ _ _ he=>?_,fun b hb=>s1.base b (hwr1 b hb),s1.mlt,s1.below⟩
  ·obtain ⟨i,cs,q1,q2,rfl,q4,q5,q6⟩:=hget j o ho
   refine .inl ⟨(List.getElem?_eq_some_iff.1 q1).1,?_⟩
   rcases s1.ob i _ q4 with ⟨_,us,T,r1,r2,r3⟩ | ⟨hn,_⟩
   ·have hd1:=RDL.of r2 (hcs cs (List.mem_of_getElem? q2))
    exact ⟨us,T,by rw [q6]; exact r1,RDL.rl (c:=cc) hd1,by rw [q6]; exact r3⟩
   ·exact absurd (hborn i q5) hn
  ·obtain ⟨i,cs,q1,q2,rfl,q4,q5,q6⟩:=hget j oj hj
   obtain ⟨i',cs',q1',q2',rfl,q4',q5',q6'⟩:=hget k ok hk
   rw [q6,q6'] at he
   have hii:=s1.inj i i' _ _ q4 q4' rfl rfl (hborn i q5) (hborn i' q5') he
   subst hii
   exact (List.getElem?_inj (List.getElem?_eq_some_iff.1 q1).1 hnd).1 (q1.trans q1'.symm)
 have hargs:vs.size=(xs.map (toO ids)).length∧∀ (j:Nat) (x:AV),(xs.map (toO ids))[j]? = some x→∃ u,vs[j]? = some u∧RV cc x u:=by
  refine ⟨by rw [List.length_map]; exact hvl,fun j x hxj=>?_⟩
  rw [List.getElem?_map,Option.map_eq_some_iff] at hxj
  obtain ⟨y,hy,rfl⟩:=hxj
  obtain ⟨u,hu1,hu2⟩:=hval j y hy
  refine ⟨u,hu1,?_⟩
  have hlo:=List.all_eq_true.1 hd y (List.mem_of_getElem? hy)
  have deepcase:∀ z:AV,deepE z=true→RV c1 z u→RV cc z u:=fun z hz hr=>.deep (hr.rdE hz)
  cases y with
  | ptr i off=>
   have him:i ∈ ids:=by simpa [lentO] using hlo
   obtain ⟨rfl,hb⟩:=hu2.inv_ptr
   have hix:ids.idxOf i < ids.length:=List.idxOf_lt_length_iff.2 him
   have hβ:cc.β (ids.idxOf i)=c1.β i:=by
    show c1.β (ids.getD (ids.idxOf i) 0)=_
    rw [List.getD_eq_getElem?_getD,List.getElem?_eq_getElem hix,Option.getD_some,List.getElem_idxOf]
   have:=RV.ptr (c:=cc) (ids.idxOf i) off hix
   rw [hβ] at this
   exact this
  | _=>exact deepcase _ hlo hu2
 have back:∀ (c2:Cx) (H2:List Ob) (css':List (List AV)),Step cc (css.map Ob.var) c2 H2→St w0 c2 H2→css'.length=css.length→(∀ (j:Nat) (cs:List AV),css'[j]? = some cs→H2[j]? = some (.var cs)∧cs.all deep1=true) →
   ∃ c3:Cx,c3.w=c2.w∧c3.M=c2.M∧Step c1 H c3 (setAll H ids css')∧St w0 c3 (setAll H ids css'):=by
  intro c2 H2 css' ht s2 hcl hco
  let c3:Cx:={ w:=c2.w,M:=c2.M,k:=c1.k,born:=c1.born,β:=c1.β,sv:=c1.sv }
  have hsz:c1.w.heap.size≤c2.w.heap.size:=ht.le.size
  have hle:c1.le c3:=⟨fun _ h=>h,fun _ _=>rfl,fun _ _=>rfl,hsz,fun b hb hm=>ht.le.keep b hb hm⟩
  have hcell:∀ (j i:Nat),ids[j]? = some i→∃ cs,css'[j]? = some cs∧(setAll H ids css')[i]? = some (.var cs)∧H2[j]? = some (.var cs)∧cs.all deep1=true:=fun j i hj=>by
   have hjc:j < css'.length:=by rw [hcl,hl]; exact (List.getElem?_eq_some_iff.1 hj).1
   have:=hco j css'[j] (List.getElem?_eq_getElem hjc)
   exact ⟨css'[j],List.getElem?_eq_getElem hjc,setAll_at ids css' H j i _ hnd hlt hj (List.getElem?_eq_getElem hjc),this.1,this.2⟩
  have hwr3:∀ b,Wr c3 (setAll H ids css') b→Wr c1 H b:=fun b ⟨i,o,ho,hlv,hb,he⟩=>by
   by_cases him:i ∈ ids
   ·obtain ⟨j,hj⟩:=List.getElem?_of_mem him
    have hjc:j < css.length:=by rw [hl]; exact (List.getElem?_eq_some_iff.1 hj).1
    exact ⟨i,_,hi j i css[j] hj (List.getElem?_eq_getElem hjc),rfl,hb,he⟩
   ·rw [setAll_other ids css' H i him] at ho
    exact ⟨i,o,ho,hlv,hb,he⟩
  have hstep:Step c1 H c3 (setAll H ids css'):=
   ⟨hle,ht.os,ht.tape,ht.output,fun b hb hn=>ht.same b hb (fun h=>hn (hwr1 b h)),fun b hb hm=>ht.mm b hb hm,
    fun b hb hn hm=>ht.mw b hb (fun h=>hn (hwr1 b h)) hm,fun b hb=>.inl (hwr3 b hb),Nat.le_refl _,fun _ _ h=>h⟩
  have hlive:∀ (i:Nat) (o:Ob),(setAll H ids css')[i]? = some o→o.live=true→∃ o1,H[i]? = some o1∧o1.live=true:=fun i o ho hlv=>by
   by_cases him:i ∈ ids
   ·obtain ⟨j,hj⟩:=List.getElem?_of_mem him
    have hjc:j < css.length:=by rw [hl]; exact (List.getElem?_eq_some_iff.1 hj).1
    exact ⟨_,hi j i css[j] hj (List.getElem?_eq_getElem hjc),rfl⟩
   ·rw [setAll_other ids css' H i him] at ho
    exact ⟨o,ho,hlv⟩
  have hS3:St w0 c3 (setAll H ids css'):=by
   refine ⟨by show c1.k=_; rw [setAll_len,s1.k],s1.bl,fun i o ho=>?_,fun i j oi oj hi' hj' li lj ni nj he=>?_,fun b hb=>s1.base b (hwr3 b hb),fun b hb=>s2.mlt b hb,s2.below⟩
   ·by_cases him:i ∈ ids
    ·obtain ⟨j,hj⟩:=List.getElem?_of_mem him
     obtain ⟨cs,q1,q2,q3,q4⟩:=hcell j i hj
     rw [q2] at ho; cases ho
     have hjl:j < ids.length:=(List.getElem?_eq_some_iff.1 hj).1
     have hβ:c2.β j=c1.β i:=by
      rw [ht.le.β j hjl]
      show c1.β (ids.getD j 0)=_
      rw [List.getD_eq_getElem?_getD,hj]; rfl
     refine .inl ⟨hborn i him,?_⟩
     rcases s2.ob j _ q3 with ⟨_,us,T,r1,r2,r3⟩ | ⟨hn,_⟩
     ·exact ⟨us,T,by rw [← hβ]; exact r1,RDL.rl (c:=c3) (show RDL c2.w c2.M cs us from RDL.of (c:=c2) r2 q4),by show c2.M (c1.β i); rw [← hβ]; exact r3⟩
     ·exact absurd (ht.le.born j hjl) hn
    ·rw [setAll_other ids css' H i him] at ho
     refine (s1.ob i o ho).le hle (fun h=>h) (fun hlv hbn=>?_)
     have hw:Wr c1 H (c1.β i):=⟨i,o,ho,hlv,hbn,rfl⟩
     have hnw:¬ Wr cc (css.map Ob.var) (c1.β i):=fun ⟨j,oj,hoj,_,_,hb⟩=>by
      obtain ⟨i',cs,q1,q2,rfl,q4,q5,q6⟩:=hget j oj hoj
      rw [q6] at hb
      exact him (s1.inj i' i _ _ q4 ho rfl hlv (hborn i' q5) hbn hb ▸ q5)
     exact ⟨ht.same _ (s1.blt hw) hnw,ht.mw _ (s1.blt hw) hnw (s1.live_M hw)⟩
   ·obtain ⟨o1,a1,a2⟩:=hlive i oi hi' li
    obtain ⟨o2,b1,b2⟩:=hlive j oj hj' lj
    exact s1.inj i j o1 o2 a1 b1 a2 b2 ni nj he
  exact ⟨c3,rfl,rfl,hstep,hS3⟩
 refine (hA w0 cc vs (hG _ hGw) hSc hargs).mono ?_
 rintro e w' (⟨c',u,x,objs',rfl,rfl,hst,hs',hv,hdv,css',hcl,hco,hpost⟩ | ⟨ch,c',objs',u,x,rfl,rfl,hst,hs',hch,hrd,hpn⟩)
 ·obtain ⟨c2,e2,s2,t2,v2⟩:=frzV_ok hs' hv
  have ht:=hst.trans t2
  have hrd:=v2.rdV hdv
  obtain ⟨c3,r1,r2,r3,r4⟩:=back c2 _ css' ht s2 hcl hco
  refine .inl ⟨c3,u,(frzV objs' x).2,_,r1.trans e2,rfl,r3,r4,.deep (by rw [r1,r2]; exact hrd),css',hcl,fun cs hcs'=>by obtain ⟨j,hj⟩:=List.getElem?_of_mem hcs'; exact (hco j cs hj).2,hdv,hpost,rfl⟩
 ·obtain ⟨css',hcl,hco,hg⟩:=hpan x objs' hpn
  obtain ⟨c3,r1,r2,r3,r4⟩:=back c' _ css' hst hs' hcl hco
  exact .inr ⟨ch,c3,_,u,x,rfl,r1,r3,r4,hch,by rw [r1,r2]; exact hrd,hg⟩
theorem SCall.frzAC {N : Nat} {d : Option Nat} (hdN : ∀ t, d = some t → t < N) {f : FuncId} {args : List Opd} {F : Fr} {H : List Ob} {K : Fr → List Ob → Prop} {xs : List AV} (hx : evA F args = some xs) {post : AV → List Ob → Prop}
    (hA : AC P G f (frzT H xs).2 (frzT H xs).1 post) (hK : ∀ x H2, post x H2 → K (putF F d x) H2) (hkf : KeepF G.keep F) : SCall P G N d f args F H K := by
  intro w0 ds c a vs hG hS hF hN hds ⟨hvl, hvs⟩
  obtain ⟨g1, g2⟩ := evA_at args xs hx
  obtain ⟨c1, e1, s1, t1, l1, v1⟩ := frzT_ok xs hS (us := vs.toList) (by simp [hvl, g1]) (fun j x u hx hu => by
    obtain ⟨p, hp, hpx⟩ := g2 j x hx
    obtain ⟨u', hu', hr⟩ := hvs j p x hp hpx
    rw [Array.getElem?_toList] at hu
    rw [hu'] at hu; cases hu; exact hr)
  rw [← e1]
  refine (hA w0 c1 vs hG s1 ⟨by rw [← l1]; simp, fun j y hy => ?_⟩).mono fun e w' hh => ?_
  · have hj : j < vs.size := by have := (List.getElem?_eq_some_iff.1 hy).1; rw [← l1] at this; simpa using this
    exact ⟨vs[j], Array.getElem?_eq_getElem hj, v1 j y vs[j] hy (by simp [hj])⟩
  · rcases hh with ⟨c', u, x, os, rfl, rfl, ht, hs, hv, hpost⟩ | ⟨ch, c', os, u, x, rfl, rfl, ht, hs, hch, hrd, hpan⟩
    · have htt := t1.trans ht
      exact .inl ⟨u, rfl, ⟨c', _, _, rfl, htt, hs, (hF.le htt.le).putF (fun t h => by rw [hN]; exact hdN t h) hv, by rw [size_put, hN], by rw [defers_put, hds], hK x os hpost⟩⟩
    · have htt := t1.trans ht
      exact .inr ⟨ch, rfl, c', os, u, x, rfl, htt, hs, hch, hrd, hpan, hds, (hkf.rf hF).le htt.le⟩
theorem AC.lend1 {f:FuncId} {H:List Ob} {xs:List AV} (i:Nat) (cs:List AV) (hi:H[i]? = some (.var cs)) (hcs:cs.all deep1=true) (hp:∃ off,AV.ptr i off ∈ xs) {Gc:Gs} (hG:∀ w,G.inv w→Gc.inv w) {post:AV→List AV→Prop} (hA:AM P Gc f (xs.map (toO [i])) cs post) (hd:xs.all (lentO [i])=true)
  (hpan:∀ x objs',Gc.pan x objs'→∃ cs',objs'[0]? = some (.var cs')∧cs'.all deep1=true∧G.pan x (H.set i (.var cs'))) :
  AC P G f xs H (fun x H2=>∃ cs',cs'.all deep1=true∧deepV x=true∧post x cs'∧H2=H.set i (.var cs')):=by
 refine AC.mono (AC.lendP (ids:=[i]) (css:=[cs]) rfl (by simp) (fun j k cs0 hj hc=>?_) (fun cs0 h0=>by rw [List.mem_singleton.1 h0]; exact hcs) (fun k hk=>by rw [List.mem_singleton.1 hk]; exact hp) hG hA hd (fun x objs' hx=>?_)) ?_
 ·cases j with
  | zero=>cases hj; cases hc; exact hi
  | succ j=>simp at hj
 ·obtain ⟨cs',h1,h2,h3⟩:=hpan x objs' hx
  refine ⟨[cs'],rfl,fun j cs0 hj=>?_,h3⟩
  cases j with
  | zero=>cases hj; exact ⟨h1,h2⟩
  | succ j=>simp at hj
 ·rintro x H2 ⟨css',h1,h2,h3,⟨cs',rfl,h4⟩,rfl⟩
  exact ⟨cs',h2 cs' (by simp),h3,h4,rfl⟩
theorem SC.lend1 {N:Nat} {F:Fr} {H:List Ob} {K:Fr→List Ob→Prop} {d:Option Nat} (hdN:∀ t,d=some t→t < N) {f:FuncId} {args:List Opd} (xs:List AV) (hx:evA F args=some xs) (i:Nat) (cs:List AV) {post:AV→List AV→Prop}
  (hi:(frzT H xs).1[i]? = some (.var cs)) (hcs:cs.all deep1=true) {Gc:Gs} (hG:∀ w,G.inv w→Gc.inv w) (hA:AM P Gc f ((frzT H xs).2.map (toO [i])) cs post) (hp:∃ off,AV.ptr i off ∈ (frzT H xs).2) (hd:(frzT H xs).2.all (lentO [i])=true)
  (hpan:∀ x objs',Gc.pan x objs'→∃ cs',objs'[0]? = some (.var cs')∧cs'.all deep1=true∧G.pan x ((frzT H xs).1.set i (.var cs')))
  (hK:∀ x cs',cs'.all deep1=true→post x cs'→K (putF F d x) ((frzT H xs).1.set i (.var cs'))) (hkf:KeepF G.keep F) {a:Tag K}:SC P G N d f args F H K a:=by
 refine SCall.frzAC hdN hx (AC.lend1 i cs hi hcs hp hG hA hd hpan) ?_ hkf
 rintro x H2 ⟨cs',h1,h2,h3,rfl⟩
 exact hK x cs' h1 h3
theorem XC.lend1 {base:Nat} {qs:List Nat} {F:Fr} {H:List Ob} {K:Fr→List Ob→Prop} {d:Option Nat} {f:FuncId} {args:List Opd} (xs:List AV) (hx:evA F args=some xs) (i:Nat) (cs:List AV) (hb:i < base) (hcov:coverQ qs F i) {post:AV→List AV→Prop}
  (hi:H[i]? = some (.var cs)) (hcs:cs.all deep1=true) {Gc:Gs} (hG:∀ w,G.inv w→Gc.inv w) (hA:AM P Gc f (xs.map (toO [i])) cs post) (hp:∃ off,AV.ptr i off ∈ xs) (hd:xs.all (lentO [i])=true)
  (hpan:∀ x objs',Gc.pan x objs'→∃ cs',objs'[0]? = some (.var cs')∧cs'.all deep1=true∧G.pan x (H.set i (.var cs')))
  (hK:∀ x cs',cs'.all deep1=true→post x cs'→K (putF F d x) (H.set i (.var cs'))) {a:Tag K}:XC P G base qs d f args F H K a:=by
 refine ⟨xs,[i],hx,fun k hk=>by rw [List.mem_singleton.1 hk]; exact hb,fun k hk _ _=>by rw [List.mem_singleton.1 hk]; exact hcov,AC.mono (AC.lend1 i cs hi hcs hp hG hA hd hpan) ?_⟩
 rintro x H2 ⟨cs',h1,h2,h3,rfl⟩
 refine ⟨fun k o hk ho=>?_,hK x cs' h1 h3⟩
 rw [List.getElem?_set_ne (fun e=>hk (by simp [e]))]; exact ho
end
end Ab
end Go.Proofs.YtgddkgbidhhheaaGreatDoor
