/- Texts joined: Prm Acb Lnm. -/
import Derived.Test.YtgddkgbidhhheaaGreatDoorKwau
import Derived.Test.YtgddkgbidhhheaaGreatDoorKwaw
import Derived.Test.YtgddkgbidhhheaaGreatDoorKwam
import Derived.Test.YtgddkgbidhhheaaGreatDoorKwav
set_option linter.unusedVariables false
set_option linter.unusedSimpArgs false
set_option maxRecDepth 100000
namespace Go.Proofs.YtgddkgbidhhheaaGreatDoor
open Go.RowKit Flo Ab Mk Pg
section
variable {G:World→Prop}
theorem resv_word:∀ s ∈ [tTrue,tFalse,tNil,tFail,tNot,tRe,tIm,tConj],s ∈ resv:=by decide
theorem wordN_resv {s:List UInt8} (h:s ∉ resv):wordN s=0:=by
 have key:∀ u ∈ [tTrue,tFalse,tNil,tFail,tNot,tRe,tIm,tConj],s≠u:=fun u hu e=>h (e ▸ resv_word u hu)
 unfold wordN
 rw [if_neg (key _ (by simp)),if_neg (key _ (by simp)),if_neg (key _ (by simp)),if_neg (key _ (by simp)),if_neg (key _ (by simp)),if_neg (key _ (by simp)),if_neg (key _ (by simp)),if_neg (key _ (by simp))]
theorem Mks.scan {t:List UInt8} {ms:List M} (ht:t.length≤32768) (h:scan t 0=.ok ms):Mks ms∧0 < ms.length:=by
 have hlen:=scan_len _ t 0 ms (Nat.lt_succ_self _) h
 obtain ⟨ts,e,rfl,hT⟩:=scan_toks _ t 0 ms (Nat.lt_succ_self _) h
 refine ⟨⟨by omega,fun a m ha hk=>?_,fun m hm hk=>?_⟩,by simp⟩
 ·rw [List.getElem?_append] at ha
  split at ha
  ·rename_i hlt; simp; omega
  ·rename_i hlt
   have hlt':=(List.getElem?_eq_some_iff.1 ha).1
   simp only [List.length_cons,List.length_nil] at hlt'
   have he:a - ts.length=0:=by omega
   rw [he] at ha
   cases ha
   exact absurd rfl hk
 ·rcases List.mem_append.1 hm with h1 | h1
  ·obtain ⟨c,r,a,ho,_,_⟩:=hT m h1
   have:=(one_kind ho).2.1
   exact wordN_resv (fun hr=>by have:=this.2 hr; omega)
  ·rw [List.mem_singleton.1 h1] at hk; cases hk
theorem _root_.Go.Proofs.YtgddkgbidhhheaaGreatDoor.Ab.RD.txt {w:World} {M:Nat→Prop} {n:Nat} {cs:List AV} {u:Value} {t:List UInt8} (h:RD w M (.sl n cs) u) (hn:n=t.length) (hc:cs=t.map byA) :
  ∃ p c,u=.slice p t.length c∧t.length≤c∧Txt w p t:=by
 cases h with
 | sl0 p cap=>
  have:t=[]:=by cases t with | nil=>rfl | cons a b=>simp at hc
  subst this
  exact ⟨p,cap,rfl,Nat.zero_le _,Txt.nil _ _⟩
 | sl b o n cap cs us hl hb hs hcell h1 hr hle=>
  subst hn; subst hc
  refine ⟨_,cap,rfl,hle,fun _=>⟨b,o,rfl,fun j x hx=>?_⟩⟩
  have hj:(t.map byA)[j]? = some (byA x):=by rw [List.getElem?_map,hx]; rfl
  have hjl:j < us.length:=by rw [hl]; exact (List.getElem?_eq_some_iff.1 hj).1
  have hu:=hr j _ us[j] hj (List.getElem?_eq_getElem hjl)
  have he:us[j]=.int .u8 (x.toNat:Int):=by
   revert hu; generalize us[j]=y; intro hu; cases hu; rfl
  rw [hcell j us[j] (List.getElem?_eq_getElem hjl),he]
theorem mksA_row (ms:List M):mksA ms=(rowM ms).map AV.v:=by
 unfold mksA rowM
 induction ms with
 | nil=>rfl
 | cons m ms ih=>rw [List.flatMap_cons,List.flatMap_cons,List.map_append,ih]; rfl
theorem rowM_flat (ms:List M):∀ u ∈ rowM ms,flat u=true:=by
 intro u hu
 obtain ⟨m,_,hm⟩:=List.mem_flatMap.1 hu
 simp only [cellsM,List.mem_cons,List.not_mem_nil,or_false] at hm
 rcases hm with rfl | rfl | rfl | rfl<;>rfl
theorem rd_marks {w w':World} {L:Nat→Prop} {e:TypeId} {v:Value} {ms:List M} (hM:∀ b,L b→b < w.heap.size) (h:w'.ownsRow w.heap.size e 4 v ms.length (rowM ms)):RD w' L (.sl ms.length (mksA ms)) v:=by
 rcases h.2 with ⟨rfl,h2⟩ | ⟨g,cap,cur,rfl,h2,h3,h4,h5,h6,h7⟩
 ·obtain rfl:=List.eq_nil_of_length_eq_zero h2
  exact .sl0 _ _
 ·have hc:=h.cells (g:=g) rfl
  rw [mksA_row]
  refine .sl g 0 _ cap _ (rowM ms) (by simp) (fun hm=>absurd (hM g hm) (by omega)) (Array.getElem?_eq_some_iff.1 h3).1 (fun j u hu=>?_) (fun u hu=>flat_one (rowM_flat ms u hu)) (fun j y u hy hu=>?_) h4
  ·have:=hc j u hu
   rw [Go.WideShapes.add_plain] at this
   simpa using this
  ·rw [List.getElem?_map,hu] at hy
   cases hy
   exact .v _ (rowM_flat ms u (List.mem_of_getElem? hu))
def limT (L:Lim):Int:=min (max L.text 0) 32768
def ParseR (t : List UInt8) (L : Lim) (x : AV) : Prop :=
  (limT L < t.length ∧ x = .tup [.agg [.sl 0 []], .agg [iv 22, iv (limT L)]]) ∨ (t.length ≤ limT L ∧ ((∃ a : Nat, scan t 0 = .error a ∧ x = .tup [.agg [.sl 0 []], .agg [iv 20, iv a]]) ∨ ∃ ms, scan t 0 = .ok ms ∧
    ((∃ fs a, P { L with text := limT L } (.prog [] ms) (.ok [.fs fs] (ms.drop a)) ∧ x = .tup [.agg [.sl fs.length (fdsA fs)], .agg [iv 0, iv 0]]) ∨ ∃ w p, w ≠ 0 ∧ P { L with text := limT L } (.prog [] ms) (.bad w p) ∧ x = .tup [.agg [.sl 0 []], .agg [iv w, iv p]])))
end
end Go.Proofs.YtgddkgbidhhheaaGreatDoor
set_option linter.unusedVariables false
set_option linter.unusedSimpArgs false
namespace Go.Proofs.YtgddkgbidhhheaaGreatDoor
open Go.RowKit
namespace Ab
section
variable {P:Program} {G:Gs}
def FinV (G:Gs) (okD:DL→Prop) (w0:World) (N:Nat) (c:Cx) (H:List Ob) (Q:XQ) (e:Exit) (a':Act) (w':World):Prop:=
 (∃ (c':Cx) (F':Fr) (H':List Ob) (ls:DL),c'.w=w'∧Step c H c' H'∧St w0 c' H'∧RF c' F' a'∧a'.tmps.size=N∧DfOk c' ls a'.defers∧Q ls e F' H') ∨
 ∃ (ch:List PanicEntry) (c':Cx) (H':List Ob) (u:Value) (x:AV) (ls:DL),e=.panic ch∧c'.w=w'∧Step c H c' H'∧St w0 c' H'∧ch=[{ v:=u,recovered:=false }]∧RD c'.w c'.M x u∧RF c' G.keep a'∧DfOk c' ls a'.defers∧okD ls∧G.pan x H'
theorem FinV.trans {okD:DL→Prop} {w0:World} {N:Nat} {c c1:Cx} {H H1:List Ob} {Q:XQ} {e:Exit} {a:Act} {w:World} (h:Step c H c1 H1) (h':FinV G okD w0 N c1 H1 Q e a w):FinV G okD w0 N c H Q e a w:=by
 rcases h' with ⟨c',F',H',ls,q1,q2,q3⟩ | ⟨ch,c',H',u,x,ls,q0,q1,q2,q3⟩
 ·exact .inl ⟨c',F',H',ls,q1,h.trans q2,q3⟩
 ·exact .inr ⟨ch,c',H',u,x,ls,q0,q1,h.trans q2,q3⟩
def XV (P:Program) (G:Gs) (okD:DL→Prop) (N:Nat) (code:Code) (Q:XQ) (ls:DL) (F:Fr) (H:List Ob):Prop:=
 ∀ (w0:World) (c:Cx) (a:Act),G.inv w0→St w0 c H→RF c F a→a.tmps.size=N→DfOk c ls a.defers→code.wp P (FinV G okD w0 N c H Q) a c.w
theorem XV.ofW {okD : DL → Prop} {N : Nat} {code : Code} {Q : XQ} {ls : DL} {F : Fr} {H : List Ob} (ho : okD ls) (h : XW P G okD N code Q ls F H) : XV P G okD N code Q ls F H := fun w0 c a hG hS hF hN hd =>
  wp_mono (h w0 c a hG hS hF hN hd ho) (fun e a' w' hfin => by
    rcases hfin with ⟨c', F', H', ls', q1, q2, q3, q4, q5, q6, q7, q8⟩ | hp
    · exact .inl ⟨c', F', H', ls', q1, q2, q3, q4, q5, q6, q8⟩
    · exact .inr hp)
def xvp (P:Program) (G:Gs) (okD:DL→Prop) (N:Nat):XCode→XQ→DL→Fr→List Ob→Prop
 | .seq a b,Q,ls,F,H=>xwp P (.np G.inv) (fun _=>True) N a (thenX (xvp P G okD N b Q) Q) ls F H
 | c,Q,ls,F,H=>okD ls∧xwp P G okD N c Q ls F H
theorem compX_seq {m:Bool} {N:Nat} {code:Code} {x y:XCode} (h:compX P m N code=some (.seq x y)):∃ a b,code=.seq a b∧compX P m N a=some x∧compX P m N b=some y:=by
 cases code with
 | seq a b=>
  unfold compX at h
  rcases orX_some h with ⟨ac,_,h⟩ | h
  ·cases h
  ·split at h
   ·rename_i x' y' hx hy
    cases h
    exact ⟨a,b,rfl,hx,hy⟩
   ·cases h
 | cond q a b=>
  unfold compX at h
  rcases orX_some h with ⟨ac,_,h⟩ | h
  ·cases h
  ·split at h<;>cases h
 | block id a=>
  unfold compX at h
  rcases orX_some h with ⟨ac,_,h⟩ | h
  ·cases h
  ·split at h<;>cases h
 | scope c=>
  unfold compX at h
  split at h<;>cases h
 | region id ops d=>
  unfold compX at h
  rcases orX_some h with ⟨ac,_,h⟩ | h
  ·cases h
  ·cases d with
   | true=>
    simp only [cond_true] at h
    split at h<;>cases h
   | false=>
    simp only [cond_false] at h
    split at h<;>cases h
 | _=>
  unfold compX at h
  rcases orX_some h with ⟨ac,_,h⟩ | h<;>cases h
theorem compV_ok (hmix:P.follows .mixedOrders=true) {m:Bool} {N:Nat} {okD:DL→Prop}:∀ (xc:XCode) (code:Code),compX P m N code=some xc→∀ (Q:XQ) (ls:DL) (F:Fr) (H:List Ob),xvp P G okD N xc Q ls F H→XV P G okD N code Q ls F H
 | .seq x y,code,h,Q,ls,F,H,hw=>by
  obtain ⟨a,b,rfl,hx,hy⟩:=compX_seq h
  unfold xvp at hw
  have:=compX_ok hmix a x hx _ ls F H hw
  intro w0 c ac hG hS hF hN hd
  refine wp_seq (wp_mono (this w0 c ac hG hS hF hN hd trivial) (fun e a' w' hfin=>?_))
  rcases hfin with ⟨c',F',H',ls',rfl,q2,q3,q4,q5,q6,q7,q8⟩ | ⟨ch,c',H',u,x,ls',rfl,p1,p2,p3,p4,p5,p6,p7,p8,p9⟩
  ·have out:∀ {e:Exit},Q ls' e F' H'→FinV G okD w0 N c H Q e a' c'.w:=fun hq=>.inl ⟨c',F',H',ls',rfl,q2,q3,q4,q5,q6,hq⟩
   cases e with
   | normal=>exact wp_mono (compV_ok hmix y b hy Q ls' F' H' q8 w0 c' a' hG q3 q4 q5 q6) (fun e a2 w2 hf=>hf.trans q2)
   | exit id=>exact out q8
   | goto l=>exact out q8
   | ret=>exact out q8
   | panic ch=>exact out q8
   | outgrown=>exact out q8
  ·exact p9.elim
 | .base a,code,h,Q,ls,F,H,hw=>.ofW hw.1 (compX_ok hmix code _ h _ _ _ _ hw.2)
 | .cond p a b,code,h,Q,ls,F,H,hw=>.ofW hw.1 (compX_ok hmix code _ h _ _ _ _ hw.2)
 | .block id a,code,h,Q,ls,F,H,hw=>.ofW hw.1 (compX_ok hmix code _ h _ _ _ _ hw.2)
 | .sco p l b,code,h,Q,ls,F,H,hw=>.ofW hw.1 (compX_ok hmix code _ h _ _ _ _ hw.2)
 | .dfr o x,code,h,Q,ls,F,H,hw=>.ofW hw.1 (compX_ok hmix code _ h _ _ _ _ hw.2)
 | .tree t,code,h,Q,ls,F,H,hw=>.ofW hw.1 (compX_ok hmix code _ h _ _ _ _ hw.2)
theorem AC.ofV (hmix : P.follows .mixedOrders = true) {f : FuncId} {N : Nat} {xc : XCode} {sl : List RSlot} (hf : FunX P f N xc sl) {Gi : Gs} (hi : ∀ w, G.inv w → Gi.inv w) {okD : DL → Prop} {args : List AV} {objs : List Ob} {post : AV → List Ob → Prop} (hN : args.length ≤ N)
    (hp : endP P G Gi okD sl post) (h : xvp P Gi okD N xc (endX P G sl post) [] (argF args) objs) : AC P G f args objs post := by
  intro w0 c vs hG hS ⟨hvs, hargs⟩
  obtain ⟨fn, code, m, h1, h2, h3, h4, h5, _⟩ := hf.ex
  refine calls_of_wp_defers h1 h2 ?_
  have hsz : (vs ++ Array.replicate (fn.ntmps - vs.size) undef).size = N := by simp; omega
  have hF : RF c (argF args) { tmps := vs ++ Array.replicate (fn.ntmps - vs.size) undef, defers := [] } := fun t x ht => by
    obtain ⟨u, hu, hr⟩ := hargs t x ht
    refine ⟨u, ?_, hr⟩
    show (vs ++ Array.replicate (fn.ntmps - vs.size) undef)[t]? = _
    rw [Array.getElem?_append_left (Array.getElem?_eq_some_iff.1 hu).1]; exact hu
  have hw := compV_ok hmix xc code h4 _ _ _ _ h w0 c { tmps := vs ++ Array.replicate (fn.ntmps - vs.size) undef, defers := [] } (hi _ hG) hS hF hsz trivial
  refine wp_mono hw (fun e a' w' hfin => ?_)
  have retn : ∀ {c' : Cx} {F' : Fr} {H' : List Ob}, Step c objs c' H' → RF c' F' a' → ∀ (c2 : Cx) (H2 : List Ob), Step c' H' c2 H2 → St w0 c2 H2 → (∃ xs, rgets F' H2 sl = some xs ∧ post (rval xs) H2) →
      ∃ v, (results fn a'.tmps).run P c2.w = .ok v c2.w ∧ ((∃ (c' : Cx) (u : Value) (x : AV) (objs' : List Ob), c'.w = c2.w ∧ Ending.returned v = .returned u ∧ Step c objs c' objs' ∧ St w0 c' objs' ∧ RV c' x u ∧ post x objs') ∨
        ∃ (ch : List PanicEntry) (c' : Cx) (objs' : List Ob) (u : Value) (x : AV), Ending.returned v = .panicked ch ∧ c'.w = c2.w ∧ Step c objs c' objs' ∧ St w0 c' objs' ∧ ch = [{ v := u, recovered := false }] ∧ RD c'.w c'.M x u ∧ G.pan x objs') := by
    intro c' F' H' t1 r1 c2 H2 t2 s2 ⟨xs, hxs, hpo⟩
    obtain ⟨v, hv1, hv2⟩ := run_results h5 s2 (r1.le t2.le) hxs
    exact ⟨v, hv1, .inl ⟨c2, v, _, H2, rfl, rfl, t1.trans t2, s2, hv2, hpo⟩⟩
  have done : ∀ {c' : Cx} {F' : Fr} {H' : List Ob} {ls : DL}, c'.w = w' → Step c objs c' H' → St w0 c' H' → RF c' F' a' → DfOk c' ls a'.defers → endR P G sl post ls F' H' → Leaves P fn a'.tmps (fun e w' => (∃ (c' : Cx) (u : Value) (x : AV) (objs' : List Ob), c'.w = w' ∧ e = .returned u ∧ Step c objs c' objs' ∧ St w0 c' objs' ∧ RV c' x u ∧ post x objs') ∨
        ∃ (ch : List PanicEntry) (c' : Cx) (objs' : List Ob) (u : Value) (x : AV), e = .panicked ch ∧ c'.w = w' ∧ Step c objs c' objs' ∧ St w0 c' objs' ∧ ch = [{ v := u, recovered := false }] ∧ RD c'.w c'.M x u ∧ G.pan x objs') a'.defers .returning w' := by
    intro c' F' H' ls e1 q2 q3 q4 q6 q8
    subst e1
    refine leaves_of hG ls _ .ret .returning c' H' q6 rfl q3 q8 (fun c2 H2 m2 u2 t2 s2 hm2 ⟨hmr, hx⟩ => ?_)
    subst hmr
    refine ⟨fun _ => retn q2 q4 c2 H2 t2 s2 hx, fun ch he => ?_⟩
    rw [he] at hm2; cases hm2
  rcases hfin with ⟨c', F', H', ls, q1, q2, q3, q4, q5, q6, q8⟩ | ⟨ch, c', H', u, x, ls, rfl, rfl, q2, q3, rfl, q5, q6, q7, q8, q9⟩
  · cases e with
    | normal => exact done q1 q2 q3 q4 q6 q8
    | ret => exact done q1 q2 q3 q4 q6 q8
    | exit id => exact q8.elim
    | goto l => exact q8.elim
    | panic ch => exact q8.elim
    | outgrown => exact q8.elim
  · refine leaves_of hG ls _ (.pan x) _ c' H' q7 ⟨u, rfl, q5⟩ q3 (hp ls x H' q8 q9) (fun c2 H2 m2 u2 t2 s2 hm2 hk => ?_)
    rcases hk with ⟨rfl, hx⟩ | ⟨y, rfl, hy⟩
    · refine ⟨fun _ => retn q2 q6 c2 H2 t2 s2 hx, fun ch he => ?_⟩
      rw [he] at hm2; cases hm2
    · obtain ⟨v, rfl, hr⟩ := hm2
      refine ⟨fun he => (by cases he), fun ch he => ?_⟩
      cases he
      exact .inr ⟨_, c2, H2, v, y, rfl, rfl, q2.trans t2, s2, rfl, hr, hy⟩
theorem hid_v (P:Program) (G:Gs) (okD:DL→Prop) (N:Nat):Nonempty { f:XCode→XQ→DL→Fr→List Ob→Prop // f=xvp P G okD N }:=⟨⟨_,rfl⟩⟩
noncomputable def xv (P:Program) (G:Gs) (okD:DL→Prop) (N:Nat):XCode→XQ→DL→Fr→List Ob→Prop:=(Classical.choice (hid_v P G okD N)).1
theorem xv_is {okD:DL→Prop} {N:Nat}:xv P G okD N=xvp P G okD N:=(Classical.choice (hid_v P G okD N)).2
theorem xv_seq {okD:DL→Prop} {N:Nat} {Q:XQ} {ls:DL} {F:Fr} {H:List Ob} (a b:XCode):xv P G okD N (.seq a b) Q ls F H=xw P (.np G.inv) (fun _=>True) N a (thenX (xv P G okD N b Q) Q) ls F H:=by rw [xv_is,xw_is]; rfl
theorem xv_base {okD:DL→Prop} {N:Nat} {Q:XQ} {ls:DL} {F:Fr} {H:List Ob} (a:ACode):xv P G okD N (.base a) Q ls F H=(okD ls∧aw P G N a (Q ls) F H):=by rw [xv_is,aw_is]; rfl
theorem AC.goV (hmix:P.follows .mixedOrders=true) {f:FuncId} {N:Nat} {xc:XCode} {sl:List RSlot} (hf:FunX P f N xc sl) {Gi:Gs} (hi:∀ w,G.inv w→Gi.inv w) {okD:DL→Prop} {args:List AV} {objs:List Ob} {post:AV→List Ob→Prop} (hN:args.length≤N)
  (hp:endP P G Gi okD sl post) (h:xv P Gi okD N xc (endX P G sl post) [] (argF args) objs):AC P G f args objs post:=AC.ofV hmix hf hi hN hp (by rw [xv_is] at h; exact h)
end
attribute [simp ↓] xv_seq xv_base
end Ab
end Go.Proofs.YtgddkgbidhhheaaGreatDoor
set_option linter.unusedVariables false
set_option linter.unusedSimpArgs false
set_option maxRecDepth 100000
namespace Go.Proofs.YtgddkgbidhhheaaGreatDoor
open Go.RowKit Flo Ab Mk Pg
def GmL (w:World):Prop:=Inv w∧Spc w
def LMarks (R:Except Nat (List M)) (x:AV):Prop:=(∃ ms,R=.ok ms∧x=.tup [.sl ms.length (mksA ms),.agg [iv 0,iv 0]])∨∃ a:Nat,R=.error a∧x=.tup [.v (.slice none 0 0),.agg [iv 20,iv a]]
theorem lmarks_ap (t:List UInt8) (ht:t.length≤16777216):AP Tryz.prog GmL 16 [.sl t.length (t.map byA)] (LMarks (scan t 0)):=by
 intro w0 w M vs hG hb hM h
 obtain ⟨u,rfl,hr⟩:=vs1 h
 obtain ⟨p,c,rfl,hc,hT⟩:=hr.txt rfl rfl
 refine (marks_any p c t hc ht w hT (hG.1.below hb) (hG.2.below' hb)).mono ?_
 rintro e w' ⟨hR,hb'⟩
 rcases hR with ⟨ms,v,hR,rfl,hown⟩ | ⟨a,hR,rfl⟩
 ·exact ⟨_,_,rfl,hb',rd_two (rd_marks hM hown) (rd_pair rfl rfl),.inl ⟨ms,hR,rfl⟩⟩
 ·exact ⟨_,_,rfl,hb',rd_two (.v _ rfl) (rd_pair rfl rfl),.inr ⟨a,hR,rfl⟩⟩
theorem map_bad' {f:List Vl→List Vl} {r:Res} {w p:Int} (h:r.map f=.bad w p):r=.bad w p:=by
 cases r with
 | ok vs ms=>cases h
 | bad a b=>exact h
theorem bad_why {l:Lim} {j:Job} {r:Res} (h:P l j r):∀ w p,r=.bad w p→w≠0:=by
 induction h<;>intro w p e<;>first
  | (cases e; done)
  | (cases e; omega)
  | (cases e; rename_i ih; exact ih _ _ rfl)
  | (rename_i ih; exact ih _ _ e)
  | (rename_i ih; exact ih _ _ (Res.cons_bad e))
  | (rename_i ih; exact ih _ _ (map_bad' e))
def jmsL:Job→List M
 | .seq _ _ ms=>ms
 | .expr _ ms=>ms
 | .row _ _ ms=>ms
 | .tail _ _ _ ms=>ms
 | .unit _ ms=>ms
 | .args _ _ ms=>ms
 | .pars _ ms=>ms
 | .prog _ ms=>ms
theorem cons_ok' {v:Vl} {r:Res} {vs:List Vl} {ms:List M} (h:r.cons v=.ok vs ms):∃ us,r=.ok us ms:=by
 cases r with
 | ok us ms'=>cases h; exact ⟨us,rfl⟩
 | bad a b=>cases h
theorem map_ok' {f:List Vl→List Vl} {r:Res} {vs:List Vl} {ms:List M} (h:r.map f=.ok vs ms):∃ us,r=.ok us ms:=by
 cases r with
 | ok us ms'=>cases h; exact ⟨us,rfl⟩
 | bad a b=>cases h
theorem P_suf {l:Lim} {j:Job} {r:Res} (h:P l j r):∀ vs ms',r=.ok vs ms'→ms' <:+ jmsL j:=by
 induction h<;>intro vs ms' e
 all_goals first
  | (cases e; done)
  | (cases e; exact List.suffix_refl _)
  | (cases e; exact List.suffix_cons _ _)
  | (obtain ⟨us,rfl⟩:=cons_ok' e; rename_i ih; exact (ih _ _ rfl).trans (List.suffix_cons _ _))
  | (obtain ⟨us,rfl⟩:=map_ok' e; rename_i ih; exact (ih _ _ rfl).trans (List.suffix_cons _ _))
  | (obtain ⟨us,rfl⟩:=map_ok' e; rename_i ih; exact (ih _ _ rfl).trans ((List.suffix_cons _ _).trans (List.suffix_cons _ _)))
  | (obtain ⟨us,rfl⟩:=cons_ok' e; rename_i ih1 ih2; exact (ih2 _ _ rfl).trans (ih1 _ _ rfl))
  | (rename_i ih; exact ih _ _ e)
  | (rename_i ih1 ih2; exact (ih2 _ _ e).trans (ih1 _ _ rfl))
  | (rename_i ih1 ih2; exact (ih2 _ _ e).trans ((ih1 _ _ rfl).trans (List.suffix_cons _ _)))
  | (rename_i ih; cases e; exact (ih _ _ rfl).trans (List.suffix_cons _ _))
  | (rename_i ih1 _ ih2; exact (ih2 _ _ e).trans (ih1 _ _ rfl))
  | (obtain ⟨us,rfl⟩:=cons_ok' e; rename_i ih1 _ ih2; exact (ih2 _ _ rfl).trans (ih1 _ _ rfl))
  | (obtain ⟨us,rfl⟩:=cons_ok' e; rename_i ih2 ih1; exact (ih2 _ _ rfl).trans (ih1 _ _ rfl))
  | (obtain ⟨us,rfl⟩:=cons_ok' e; trace_state)
@[reducible] def Gp4 (E:Int→Int→Prop):Gs:=⟨GmL,fun x H=>∃ (w p:Int) (c1:List AV) (c2:List AV),x=faultA w p∧E w p∧H[1]? = some (.var [.v (.slice none 0 0)])∧H[2]? = some (.var [iv 0,iv 0]),fun t=>if t=4 then some (.ptr 1 0) else if t=5 then some (.ptr 2 0) else none⟩
theorem lparse1_pan {H:List Ob} {w p:Int} (h1:H[1]? = some (.var [.v (.slice none 0 0)])) (h2:H[2]? = some (.var [iv 0,iv 0])) {K:AMode→List Ob→Prop} (hK:∀ H':List Ob,H'[1]? = some (.var [.v (.slice none 0 0)])→H'[2]? = some (.var [iv w,iv p])→K .ret H') :
  Settle Tryz.prog (.np GmL) [(33,[.ptr 1 0,.ptr 2 0])] (.pan (faultA w p)) H K:=by
 have hl1:1 < H.length:=(List.getElem?_eq_some_iff.1 h1).1
 have hl2:2 < H.length:=(List.getElem?_eq_some_iff.1 h2).1
 have g1:∀ Y,(H++Y)[1]? = some (.var [.v (.slice none 0 0)]):=fun Y=>(List.getElem?_append_left hl1).trans h1
 have g2:∀ Y,(H++Y)[2]? = some (.var [iv 0,iv 0]):=fun Y=>(List.getElem?_append_left hl2).trans h2
 have k2:∀ o Y,(H.set 1 o++Y)[2]? = some (.var [iv 0,iv 0]):=fun o Y=>by rw [List.getElem?_append_left (by simpa using hl2),List.getElem?_set_ne (by omega)]; exact h2
 have hfar:¬ 1=H.length:=by omega
 unfold Settle
 refine DAC.goR hmix F_lParse1 (fun _ _ h=>h) (by simp) ?_
 simp -implicitDefEqProofs [c_lParse1,c_lParse1_ops,faultA,wrOb,splice,evP,fillA,g1,g2,k2,farP,hfar,hl1,hl2,-getElem?_pos,Settle]
 refine hK _ ?_ ?_
 ·rw [List.getElem?_append_left (by simpa using hl1),List.getElem?_set_ne (by omega),List.getElem?_set_self hl1]
 ·rw [List.getElem?_append_left (by simpa using hl2),List.getElem?_set_self (by simpa using hl2)]
theorem lparse1_ret {H:List Ob} {K:AMode→List Ob→Prop} (hK:∀ Y,K .ret (H++Y)) :
  Settle Tryz.prog (.np GmL) [(33,[.ptr 1 0,.ptr 2 0])] .ret H K:=by
 unfold Settle
 refine DAC.goR hmix F_lParse1 (fun _ _ h=>h) (by simp) ?_
 simp -implicitDefEqProofs [c_lParse1,c_lParse1_ops,wrOb,splice,evP,fillA,Settle]
 exact hK _
def LpE (t:List UInt8) (L:Lim) (w p:Int):Prop:=t.length≤limT L∧∃ ms,scan t 0=.ok ms∧P { L with text:=limT L } (.prog [] ms) (.bad w p)
theorem Mz.scan {t:List UInt8} {ms:List M} (ht:t.length≤32768) (h:scan t 0=.ok ms):Mz ms:=by
 obtain ⟨hk,hpos⟩:=Mks.scan ht h
 have hlen:=scan_len _ t 0 ms (Nat.lt_succ_self _) h
 refine ⟨by omega,hk.fin,fun e=>by subst e; simp at hpos,fun m hm=>?_⟩
 obtain ⟨ts,e,rfl,hT⟩:=scan_toks _ t 0 ms (Nat.lt_succ_self _) h
 rcases List.mem_append.1 hm with h1 | h1
 ·obtain ⟨c,r,a,ho,_,_⟩:=hT m h1
  exact (one_kind ho).2.1
 ·rw [List.mem_singleton.1 h1]
  constructor<;>intro h<;>revert h<;>simp<;>decide
theorem keepP {E:Int→Int→Prop} {F:Fr} (h4:F 4=some (.ptr 1 0)) (h5:F 5=some (.ptr 2 0)) {pre post:List AOper} {d:Option Nat} (hp:∀ o ∈ pre++post,∀ t,o.dst=some t→t≠4∧t≠5) (hd:∀ t,d=some t→t≠4∧t≠5):KeepD (Gp4 E) pre post d F:=by
 have none:∀ t,t≠4∧t≠5→(Gp4 E).keep t=Option.none:=fun t h=>by
  show (if t=4 then some (AV.ptr 1 0) else if t=5 then some (AV.ptr 2 0) else Option.none)=Option.none
  rw [if_neg h.1,if_neg h.2]
 refine ⟨fun t x h=>?_,fun o ho t ht=>none t (hp o ho t ht),fun t ht=>none t (hd t ht)⟩
 by_cases e4:t=4
 ·subst e4; cases h; exact h4
 ·by_cases e5:t=5
  ·subst e5; cases h; exact h5
  ·rw [none t ⟨e4,e5⟩] at h; cases h
theorem lparse_ap (t:List UInt8) (L:Lim):AP Tryz.prog GmL 20 [.sl t.length (t.map byA),.agg [iv L.text,iv L.funcs,iv L.arity,iv L.nest]] (ParseR t L):=by
 have hl:∀ (i1 i2:Decidable (L.text < 0)) (i3:Decidable ((32768:Int) < @ite Int (L.text < 0) i1 0 L.text)),@ite Int ((32768:Int) < @ite Int (L.text < 0) i1 0 L.text) i3 32768 (@ite Int (L.text < 0) i2 0 L.text)=limT L:=by
  intro i1 i2 i3
  unfold limT
  split<;>split<;>omega
 have hl2:0≤limT L∧limT L≤32768:=by unfold limT; omega
 refine AP.ofAC (AC.goV (G:=.np GmL) hmix F_lParse (Gi:=Gp4 (LpE t L)) (okD:=fun ls=>ls=[(33,[.ptr 1 0,.ptr 2 0])]) (fun _ h=>h) (by simp) ?_ ?_)
 ·rintro ls x H rfl ⟨w,p,c1,c2,rfl,hE,h1,h2⟩
  refine lparse1_pan h1 h2 (fun H' h1' h2'=>.inl ⟨rfl,?_⟩)
  simp -implicitDefEqProofs [h1',h2']
  obtain ⟨hlt,ms,hms,hP⟩:=hE
  exact .inr ⟨hlt,.inr ⟨ms,hms,.inr ⟨w,p,bad_why hP _ _ rfl,hP,rfl⟩⟩⟩
 ·simp -implicitDefEqProofs [c_lParse,wrOb,splice,evL,mmF,hl]
  by_cases hbig:limT L < t.length
  ·simp -implicitDefEqProofs [hbig,wrOb,splice,evP,fillA,farP,sLdd,endR_nil]
   exact .inl ⟨hbig,rfl⟩
  ·have hsm:(t.length:Int)≤limT L:=by omega
   have hsm':¬ limT L < t.length:=hbig
   simp -implicitDefEqProofs [hbig]
   refine SC.frz (by simp) [.sl t.length (t.map byA)] (by simp) (post:=LMarks (scan t 0)) (by simpa using lmarks_ap t (by omega)) (by simp) ?_ (a:=.mk)
   rintro x (⟨ms,hms,rfl⟩ | ⟨a,hms,rfl⟩)
   ·have hz:=Mz.scan (by omega) hms
    simp -implicitDefEqProofs [wrOb,splice,evP,fillA,farP]
    refine ⟨keepP (by simp) (by simp) (by simp) (by simp),?_⟩
    have hprog:=lprog_ok (G:=GmL) (l:={ L with text:=limT L }) (E:=LpE t L) hz (fun w p h=>⟨hsm,ms,hms,h⟩)
    refine XC.lend1 (G:=Gp4 (LpE t L)) [.ptr 4 0] (by simp) 4 (prs { L with text:=limT L } ms 0) (by simp) (by simp [coverQ]) (by simp [prs]) (prs_deep _ _ _) (Gc:=Gl GmL { L with text:=limT L } (LpE t L)) (fun _ h=>h) (by simpa [toO] using hprog) ⟨0,by simp⟩ (by simp [lentO]) ?_ ?_ (a:=.mk)
    ·rintro x os ⟨w,p,ms',n',rfl,hE,h0⟩
     exact ⟨_,h0,prs_deep _ _ _,w,p,[],[],rfl,hE,by simp,by simp⟩
    ·rintro x cs - ⟨fs,ms',hP,rfl,rfl⟩
     simp -implicitDefEqProofs [wrOb,splice,evP,fillA,farP,sLdd]
     unfold endR
     refine lparse1_ret (fun Y=>⟨rfl,?_⟩)
     simp -implicitDefEqProofs
     obtain ⟨k,hk⟩:=P_suf hP _ _ rfl
     have hk':k++ms'=ms:=hk
     refine .inr ⟨hsm,.inr ⟨ms,hms,.inl ⟨fs,k.length,?_,rfl⟩⟩⟩
     rwa [← hk',List.drop_left,hk']
   ·simp -implicitDefEqProofs [wrOb,splice,evP,fillA,farP,sLdd,endR_nil]
    exact .inr ⟨hsm,.inl ⟨a,hms,rfl⟩⟩
end Go.Proofs.YtgddkgbidhhheaaGreatDoor
