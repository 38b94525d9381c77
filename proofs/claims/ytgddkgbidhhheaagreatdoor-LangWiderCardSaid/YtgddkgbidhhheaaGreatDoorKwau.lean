/- Texts joined: Prg Prh Pri Prj Prk Prl Lnk. -/
import Derived.Test.YtgddkgbidhhheaaGreatDoorKwat
set_option linter.unusedVariables false
set_option linter.unusedSimpArgs false
set_option maxRecDepth 100000
namespace Go.Proofs.YtgddkgbidhhheaaGreatDoor
open Go.RowKit Flo Ab Mk Pg
section
variable {G:World→Prop} {all:List M} {l:Lim} {b:Nat} {n:Int}
theorem tm_last {a lv:Nat} {op:Int} {e:Ex} {m:M} (h1:all[a]? = some m) (hs:strOf m=some (lv,op)) (h2:lv < 2) (hP:∀ r,P l (.tail n lv e (all.drop a)) r→P l (.row n lv (all.drop b)) r) (hb:b < a) {x:AV} {cs:List AV}
  (hO:Out (P l (.row n (right lv) (all.drop (a + 1)))) all l (a + 1) n x cs):∃ (e2:Ex) (a2:Nat) (w2 p2 n2:Int),x=exA e2∧cs=rdr all l a2 w2 p2 n2∧Out (P l (.row n lv (all.drop b))) all l b n (exA (two op e e2 m.pos)) (rdr all l a2 w2 p2 n2):=by
 rcases hO with ⟨e2,a2,hP2,rfl,ha1,ha2,rfl⟩ | ⟨w,p,e2,a2,n2,hP2,hw,rfl,ha2,rfl⟩
 ·refine ⟨e2,a2,0,0,n,rfl,rfl,.inl ⟨_,a2,hP _ ?_,rfl,by omega,ha2,rfl⟩⟩
  rw [drop_at h1]; exact .tail1 hs h2 hP2
 ·refine ⟨e2,a2,w,p,n2,rfl,rfl,.inr ⟨w,p,_,a2,n2,hP _ ?_,hw,rfl,ha2,rfl⟩⟩
  rw [drop_at h1]; exact .tailBad _ hs hP2
theorem tm_stop {a lv:Nat} {e:Ex} {m:M} {w p n':Int} (h1:all[a]? = some m) (h:TmI l all b n lv e a w p n') (hs:w=0→∀ op,strOf m≠some (lv,op)):Out (P l (.row n lv (all.drop b))) all l b n (exA e) (rdr all l a w p n'):=by
 obtain ⟨ha,⟨rfl,rfl,rfl,hb1,hP⟩ | ⟨hw,hP⟩⟩:=h
 ·refine .inl ⟨e,a,hP _ ?_,rfl,hb1,ha,rfl⟩
  rw [drop_at h1]
  exact .stop _ _ _ (str_not (hs rfl))
 ·exact .inr ⟨w,p,e,a,n',hP,hw,rfl,ha,rfl⟩
theorem tm_new {lv:Nat} (h:lv < 4) {x:AV} {cs:List AV} (hO:Out (P l (.row n (lv + 1) (all.drop b))) all l b n x cs):∃ (e:Ex) (a:Nat) (w p n':Int),x=exA e∧cs=rdr all l a w p n'∧TmI l all b n lv e a w p n':=by
 rcases hO with ⟨e,a',hP,rfl,ha1,ha2,rfl⟩ | ⟨w,p,e,a',n1,hP,hw,rfl,ha2,rfl⟩
 ·exact ⟨e,a',0,0,n,rfl,rfl,ha2,.inl ⟨rfl,rfl,rfl,ha1,fun r hr=>.row h hP hr⟩⟩
 ·exact ⟨e,a',w,p,n1,rfl,rfl,ha2,.inr ⟨hw,.rowBad h hP⟩⟩
theorem cons_ok (hm : Mks all) (hU : ∀ a, b ≤ a → a < all.length → GC G 132 all l (Lv 1) a) (hC : ∀ a, b < a → a < all.length → GC G 111 all l (Lv 0) a) (hb : b < all.length) : GC G 111 all l (Lv 0) b := by
  intro n hn0 hn1
  have hlen := hm.len
  refine AM.go hmix F_pcons (by simp) ?_
  simp -implicitDefEqProofs [c_pcons]
  refine SC.rd (by simp) [.ptr 0 0] (by simp) (all := all) (l := l) (a := b) (why := 0) (wh := 0) (n := n) (by simp) (hU b (by omega) hb n hn0 hn1) (by simp [toO]) ⟨0, by simp⟩ (by simp [lentO]) ?_ (tg := .mk)
  rintro x cs - hO
  obtain ⟨e, a, w, p, n', rfl, rfl, hT⟩ := tm_new (by decide) hO
  clear hO
  obtain ⟨o, nm, tl, ty, num, args, pos⟩ := e
  have ha := hT.1
  obtain ⟨m, h1⟩ : ∃ m, all[a]? = some m := ⟨_, List.getElem?_eq_getElem ha⟩
  simp -implicitDefEqProofs [exA, Ex.cells, wrOb, splice]
  refine SC.rd (by simp) [.ptr 0 0] (by simp) (all := all) (l := l) (a := a) (why := w) (wh := p) (n := n') (by simp) (rnext_ap all l a w p n' h1) (by simp [toO]) ⟨0, by simp⟩ (by simp [lentO]) ?_ (tg := .mk)
  rintro x cs - ⟨rfl, rfl⟩
  have t1 := rtake_ap (G := G) all l a w p n' sColon h1 (by omega)
  obtain ⟨q1, hq1⟩ : ∃ q, (decide (w = 0) && isW m sColon) = q := ⟨_, rfl⟩
  rw [hq1] at t1
  simp -implicitDefEqProofs [mcells, wrOb, splice]
  refine SC.rd (by simp) [.ptr 0 0, sv sColon] (by simp) (all := all) (l := l) (a := a) (why := w) (wh := p) (n := n') (by simp) (t1) (by simp [toO]) ⟨0, by simp⟩ (by simp [lentO]) ?_ (tg := .mk)
  rintro x cs - ⟨rfl, rfl⟩
  cases q1
  · simp -implicitDefEqProofs [wrOb, splice, finM]
    refine ⟨by simp [rdr], ?_⟩
    have := tm_stop (e := .mk o nm tl ty num args pos) h1 hT (fun h0 op hs => by
      subst h0
      have h := (strOf_lv hs).1 rfl
      simp [h] at hq1)
    simpa [exA, Ex.cells, Lv] using this
  · simp only [Bool.and_eq_true, decide_eq_true_eq] at hq1
    obtain ⟨rfl, hsg⟩ := hq1
    have hst : strOf m = some (0, 18) := by rw [strOf_at hsg]; decide
    have hlt := hm.fin a _ h1 (isW_kind hsg).2.2
    obtain ⟨rfl, rfl, hb1, hP⟩ := hT.good
    simp -implicitDefEqProofs
    refine SC.rd (by simp) [.ptr 0 0] (by simp) (all := all) (l := l) (a := a + 1) (why := 0) (wh := 0) (n := n') (by simp) (hC (a + 1) (by omega) hlt n' hn0 (by omega)) (by simp [toO]) ⟨0, by simp⟩ (by simp [lentO]) ?_ (tg := .mk)
    rintro x cs - hO
    obtain ⟨e2, a2, w2, p2, n2, rfl, rfl, hT2⟩ := tm_last (e := .mk o nm tl ty num args pos) h1 hst (by decide) hP hb1 hO
    obtain ⟨o2, nm2, tl2, ty2, num2, args2, pos2⟩ := e2
    simp -implicitDefEqProofs [exA, Ex.cells, wrOb, splice]
    refine SC.frz (by simp) [iv 18, .agg [iv o, sv nm, sv tl, iv ty, cv (W num.1) (W num.2), .sl args.length (exsA args), iv pos], .agg [iv o2, sv nm2, sv tl2, iv ty2, cv (W num2.1) (W num2.2), .sl args2.length (exsA args2), iv pos2], .agg [iv m.kind, sv m.text, cv (W m.num.1) (W m.num.2), iv m.pos]] (by simp) (post := fun x => x = exA (two 18 (.mk o nm tl ty num args pos) (.mk o2 nm2 tl2 ty2 num2 args2 pos2) m.pos)) (by simpa [exA, Ex.cells, mcells] using ptwo_ap 18 (.mk o nm tl ty num args pos) (.mk o2 nm2 tl2 ty2 num2 args2 pos2) m) (by simp) ?_ (a := .mk)
    rintro x rfl
    simp -implicitDefEqProofs [exA, two, Ex.cells, wrOb, splice, finM]
    refine ⟨by simp [rdr], ?_⟩
    simpa [exA, two, Ex.cells, exsA, Lv, W0] using hT2
end
end Go.Proofs.YtgddkgbidhhheaaGreatDoor
set_option linter.unusedVariables false
set_option linter.unusedSimpArgs false
set_option maxRecDepth 100000
namespace Go.Proofs.YtgddkgbidhhheaaGreatDoor
open Go.RowKit Flo Ab Mk Pg
namespace Ab
section
variable {P:Program} {G:World→Prop}
end
end Ab
section
variable {G:World→Prop} {all:List M} {l:Lim} {b:Nat} {n:Int} {Q:Res→Prop}
end
end Go.Proofs.YtgddkgbidhhheaaGreatDoor
set_option linter.unusedVariables false
set_option linter.unusedSimpArgs false
set_option maxRecDepth 100000
namespace Go.Proofs.YtgddkgbidhhheaaGreatDoor
open Go.RowKit Flo Ab Mk Pg
section
variable {G:World→Prop} {all:List M} {l:Lim} {b:Nat} {n:Int}
end
end Go.Proofs.YtgddkgbidhhheaaGreatDoor
set_option linter.unusedVariables false
set_option linter.unusedSimpArgs false
set_option maxRecDepth 100000
namespace Go.Proofs.YtgddkgbidhhheaaGreatDoor
open Go.RowKit Flo Ab Mk Pg
section
variable {G:World→Prop} {all:List M} {l:Lim} {b:Nat} {n:Int} {Q:Res→Prop}
def pmsA (ps:List Pm):List AV:=ps.flatMap fun p=>[sv p.name,iv p.ty,iv p.pos]
def fdA (f:Pg.Fd):List AV:=[sv f.name,.sl f.params.length (pmsA f.params),iv f.ty]++f.body.cells++[iv f.pos]
end
end Go.Proofs.YtgddkgbidhhheaaGreatDoor
set_option linter.unusedVariables false
set_option linter.unusedSimpArgs false
set_option maxRecDepth 100000
namespace Go.Proofs.YtgddkgbidhhheaaGreatDoor
open Go.RowKit Flo Ab Mk Pg
section
variable {G:World→Prop} {all:List M} {l:Lim} {b:Nat} {n:Int} {Q:Res→Prop}
theorem pmsA_len (ps:List Pm):(pmsA ps).length=ps.length * 3:=by
 unfold pmsA
 induction ps with
 | nil=>rfl
 | cons v vs ih=>rw [List.flatMap_cons,List.length_append,ih]; simp; omega
def fCells (m:M) (X:AV):List AV:=[sv m.text,X,iv 0,iv 0,sv [],sv [],iv 0,cv 0 0,.v (.slice none 0 0),iv 0,iv m.pos]
theorem pmsA_snoc (ps:List Pm) (p:Pm):pmsA (ps++[p])=pmsA ps++[sv p.name,iv p.ty,iv p.pos]:=by unfold pmsA; rw [List.flatMap_append]; simp
end
end Go.Proofs.YtgddkgbidhhheaaGreatDoor
set_option linter.unusedVariables false
set_option linter.unusedSimpArgs false
set_option maxRecDepth 100000
namespace Go.Proofs.YtgddkgbidhhheaaGreatDoor
open Go.RowKit Flo Ab Mk Pg
section
variable {G:World→Prop} {all:List M} {l:Lim}
def fdsA (fs:List Pg.Fd):List AV:=fs.flatMap fdA
theorem cells_len (e:Ex):e.cells.length=7:=by obtain ⟨o,nm,tl,ty,num,args,pos⟩:=e; simp [Ex.cells]
theorem fdA_len (f:Pg.Fd):(fdA f).length=11:=by simp [fdA,cells_len]
theorem fdsA_len (fs:List Pg.Fd):(fdsA fs).length=fs.length * 11:=by
 unfold fdsA
 induction fs with
 | nil=>rfl
 | cons v vs ih=>rw [List.flatMap_cons,List.length_append,ih,fdA_len]; simp; omega
theorem fdsA_snoc (fs:List Pg.Fd) (f:Pg.Fd):fdsA (fs++[f])=fdsA fs++fdA f:=by unfold fdsA; rw [List.flatMap_append]; simp
end
end Go.Proofs.YtgddkgbidhhheaaGreatDoor
set_option linter.unusedVariables false
set_option linter.unusedSimpArgs false
set_option maxRecDepth 100000
namespace Go.Proofs.YtgddkgbidhhheaaGreatDoor
open Go.RowKit Flo Ab Mk Pg
section
variable {G:World→Prop} {l:Lim} {E:Int→Int→Prop} {n:Int} {Q:Res→Prop} {vs:List Vl} {is:List It} {L:Nat}
theorem lall:∀ L,(∀ ms,Mz ms→ms.length≤L→GCL G 69 l .expr ms)∧RowC G l L:=by
 intro L
 induction L using Nat.strongRecOn with
 | _ L ih=>
  have hX:HXL G l L:=fun ms hz hlt=>(ih ms.length hlt).1 ms hz (Nat.le_refl _)
  have hR:=lrow_ok hX (fun L' h=>(ih L' h).2)
  exact ⟨fun ms hz hlt=>lexpr_ok hX hR hz hlt,hR⟩
theorem HXL_all:HXL G l L:=fun ms hz _=>(lall ms.length).1 ms hz (Nat.le_refl _)
def ParQ (l:Lim) (ms0:List M) (ps:List Pm) (r0:Res):Prop:=match r0 with
 | .ok [.nm x,.ty t] ms'=>∀ r,P l (.pars (ps++[⟨x.text,t,x.pos⟩]) ms') r→P l (.pars [] ms0) r
 | .bad w p=>P l (.pars [] ms0) (.bad w p)
 | _=>True
theorem pars_first {ms0:List M} {m:M} {r:List M} (h:∀ r0,P l (.pars [] (m :: r)) r0→P l (.pars [] ms0) r0) (hz:Mz (m :: r)) (hc:isW m sClose=false):SqL l 0 (ParQ l ms0 []) [] [.cn 0 l.arity,.ty] (m :: r):=by
 refine ⟨hz,fun r0 hr0=>?_⟩
 show ParQ l ms0 [] r0
 unfold ParQ
 split
 ·exact fun r1 hr1=>h _ (.pNext0 hc hr0 hr1)
 ·exact h _ (.pBad0 hc hr0)
 ·trivial
theorem pars_comma' {ms0:List M} {ps:List Pm} {m:M} {r:List M} (h:∀ r0,P l (.pars ps (m :: r)) r0→P l (.pars [] ms0) r0) (hz:Mz (m :: r)) (hc:isW m sClose=false) (hu:ps≠[]) :
  SqL l 0 (fun r0=>match r0 with | .ok [.u] ms'=>isW m sComma=true∧ms'=r | .bad w p=>P l (.pars [] ms0) (.bad w p) | _=>True) [] [.w sComma] (m :: r):=by
 refine ⟨hz,fun r0 hr0=>?_⟩
 cases hr0 with
 | w hq hr=>cases hr; exact ⟨hq,rfl⟩
 | wBad _ _ _ hq=>exact h _ (.pSep _ hc hu hq)
theorem pars_more {ms0:List M} {ps:List Pm} {m:M} {r:List M} (h:∀ r0,P l (.pars ps (m :: r)) r0→P l (.pars [] ms0) r0) (hz:Mz r) (hu:ps≠[]) (hq:isW m sComma=true):SqL l 0 (ParQ l ms0 ps) [] [.cn ps.length l.arity,.ty] r:=by
 refine ⟨hz,fun r0 hr0=>?_⟩
 show ParQ l ms0 ps r0
 unfold ParQ
 split
 ·exact fun r1 hr1=>h _ (.pNext hu hq hr0 hr1)
 ·exact h _ (.pBad hu hq hr0)
 ·trivial
structure LdI (l:Lim) (m:M) (ms0:List M) (g:Nat) (F:Fr) (H:List Ob):Prop where
 ex:∃ (ps:List Pm) (ms:List M) (X:AV),g=ms.length∧Mz ms∧ms.length + ps.length≤ms0.length∧(∀ r,P l (.pars ps ms) r→P l (.pars [] ms0) r)∧H[0]? = some (.var (prs l ms 0))∧H[3]? = some (.var (fCells m X)) ∧
  ((ps=[]∧X=.v (.slice none 0 0)∧F 7=some (bv true))∨∃ r,3 < r∧X=.row r∧ps≠[]∧H[r]? = some (.own 69 3 ps.length (pmsA ps))∧F 7=some (bv false))
 f0:F 0=some (.ptr 0 0)
 f4:F 4=some (.ptr 1 0)
 f6:F 6=some (.ptr 3 0)
 hH1:H[1]? = some (.var [sv [],.v (.slice none 0 0),iv 0,iv 0,sv [],sv [],iv 0,cv 0 0,.v (.slice none 0 0),iv 0,iv 0])
noncomputable def ldA:ACode:=match c_ldef_L0 with | .seq a _=>a | x=>x
noncomputable def ldB:ACode:=match c_ldef_L0 with | .seq _ (.seq (.block _ (.seq b _)) _)=>b | x=>x
noncomputable def ldTail:ACode:=match c_ldef_L0 with | .seq _ (.seq (.block _ (.seq _ t)) _)=>t | x=>x
noncomputable def ldC:ACode:=match c_ldef_L0 with | .seq _ (.seq _ c)=>c | x=>x
theorem ldL_split:c_ldef_L0=.seq ldA (.seq (.block 1 (.seq ldB ldTail)) ldC):=rfl
theorem ld_rest {m : M} {ms0 ms : List M} {ps : List Pm} (hps : ps.length ≤ 40000) (hS : SqL l 0 (ParQ l ms0 ps) [] [.cn ps.length l.arity, .ty] ms) (hE : ∀ w p, P l (.pars [] ms0) (.bad w p) → E w p) {X : AV} {F : Fr} {H : List Ob} {K : Exit → Fr → List Ob → Prop}
    (f0 : F 0 = some (.ptr 0 0)) (f4 : F 4 = some (.ptr 1 0)) (f6 : F 6 = some (.ptr 3 0)) (hH0 : H[0]? = some (.var (prs l ms 0))) (hH1 : H[1]? = some (.var [sv [], .v (.slice none 0 0), iv 0, iv 0, sv [], sv [], iv 0, cv 0 0, .v (.slice none 0 0), iv 0, iv 0])) (hH3 : H[3]? = some (.var (fCells m X)))
    (hR : (ps = [] ∧ X = .v (.slice none 0 0)) ∨ ∃ r, 3 < r ∧ X = .row r ∧ ps ≠ [] ∧ H[r]? = some (.own 69 3 ps.length (pmsA ps)))
    (hK : ∀ (F' : Fr) (H' : List Ob) (p : Pm) (ms' : List M) (r : Nat), ms'.length < ms.length → (∀ r, P l (.pars (ps ++ [p]) ms') r → P l (.pars [] ms0) r) → Mz ms' → F' 0 = some (.ptr 0 0) → F' 4 = some (.ptr 1 0) → F' 6 = some (.ptr 3 0) → H'[0]? = some (.var (prs l ms' 0)) →
      H'[1]? = some (.var [sv [], .v (.slice none 0 0), iv 0, iv 0, sv [], sv [], iv 0, cv 0 0, .v (.slice none 0 0), iv 0, iv 0]) → 3 < r → H'[3]? = some (.var (fCells m (.row r))) → H'[r]? = some (.own 69 3 (ps.length + 1) (pmsA (ps ++ [p]))) → K .normal F' H') : aw Tryz.prog (Gl G l E) 71 ldTail K F H := by
  have hl0 : 0 < H.length := (List.getElem?_eq_some_iff.1 hH0).1
  have hl3 : 3 < H.length := (List.getElem?_eq_some_iff.1 hH3).1
  have g0 : ∀ Y, (H ++ Y)[0]? = some (.var (prs l ms 0)) := fun Y => by rw [List.getElem?_append_left hl0]; exact hH0
  have g0' : ∀ Y, (H ++ Y)[0]? = some (.var [iv l.text, iv l.funcs, iv l.arity, iv l.nest, .sl ms.length (mksA ms), iv 0]) := g0
  have g3 : ∀ Y, (H ++ Y)[3]? = some (.var [sv m.text, X, iv 0, iv 0, sv [], sv [], iv 0, cv 0 0, .v (.slice none 0 0), iv 0, iv m.pos]) := fun Y => by rw [List.getElem?_append_left hl3]; exact hH3
  have g1 : ∀ Y, (H ++ Y)[1]? = _ := fun Y => (List.getElem?_append_left (by omega)).trans hH1
  have hcn := lcounted_sq (G := G) (E := E) hS (fun w p h => hE w p h)
  unfold ldTail c_ldef_L0
  have s0 : ∀ o Y, (H.set 0 o ++ Y)[0]? = some o := fun o Y => by rw [List.getElem?_append_left (by simpa using hl0), List.getElem?_set_self hl0]
  have s1 : ∀ o Y, (H.set 0 o ++ Y)[1]? = some (.var [sv [], .v (.slice none 0 0), iv 0, iv 0, sv [], sv [], iv 0, cv 0 0, .v (.slice none 0 0), iv 0, iv 0]) := fun o Y => by rw [List.getElem?_append_left (by simp; omega), List.getElem?_set_ne (by omega)]; exact hH1
  have s3 : ∀ o Y, (H.set 0 o ++ Y)[3]? = some (.var [sv m.text, X, iv 0, iv 0, sv [], sv [], iv 0, cv 0 0, .v (.slice none 0 0), iv 0, iv m.pos]) := fun o Y => by rw [List.getElem?_append_left (by simpa using hl3), List.getElem?_set_ne (by omega)]; exact hH3
  have sm : ∀ o y Y, (H.set 0 o ++ y :: Y)[H.length]? = some y := fun o y Y => by rw [List.getElem?_append_right (by simp)]; simp
  have hfar : ¬ 0 = H.length := by omega
  have hfar' : ¬ H.length = 0 := by omega
  rcases hR with ⟨rfl, rfl⟩ | ⟨r, hr3, rfl, hu, hr⟩
  · have hcn0 : AM Tryz.prog (Gl G l E) 65 [.ptr 0 0, iv 0, iv l.arity] (prs l ms 0) (fun x cs => ∃ m ms', x = .agg (mcells m) ∧ cs = prs l ms' 0 ∧ SqL l 0 (ParQ l ms0 []) ([] ++ [.nm m]) [.ty] ms' ∧ ms'.length < ms.length) := hcn
    simp -implicitDefEqProofs [f0, f6, g0', g3, farP, -getElem?_pos]
    refine XC.pr [.ptr 0 0, iv 0, iv l.arity] (by simp) (ms := ms) (n := 0) (by first | simp | omega) (by simp [coverQ, f0, g0, -getElem?_pos]) (by simp -implicitDefEqProofs [f0, g0, -getElem?_pos]) (hcn0) (by simp [toO, f0, g0, -getElem?_pos]) ⟨0, by simp [f0, g0, -getElem?_pos]⟩ (by simp [lentO, f0, g0, -getElem?_pos]) ?_ (tg := .mk)
    rintro x cs - ⟨y, ms1, rfl, rfl, hS1, hl1⟩
    simp -implicitDefEqProofs [mcells, wrOb, splice, f0, f6, hl0, hl3, s0, s1, s3, sm, hfar, hfar', farP, -getElem?_pos]
    refine XC.pr [.ptr 0 0] (by simp) (ms := ms1) (n := 0) (by first | simp | omega) (by simp [coverQ, f0, s0, -getElem?_pos]) (by simp -implicitDefEqProofs [f0, s0, -getElem?_pos]) (ltyp_sq hS1 (fun w p h => hE w p h)) (by simp [toO, f0, s0, -getElem?_pos]) ⟨0, by simp [f0, s0, -getElem?_pos]⟩ (by simp [lentO, f0, s0, -getElem?_pos]) ?_ (tg := .mk)
    rintro x cs - ⟨t, ms2, rfl, rfl, hS2, hl2⟩
    simp -implicitDefEqProofs [mcells, wrOb, splice, evP, fillA, dz, f0, f6, hl0, hl3, s0, s1, s3, sm, hfar, hfar', -getElem?_pos]
    refine hK _ _ ⟨y.text, t, y.pos⟩ ms2 (H.length + 1) (by omega) hS2.end hS2.1 (by simp [f0]) (by simp [f4]) (by simp [f6]) ?_ ?_ (by omega) ?_ ?_
    · rw [List.getElem?_append_left (by simp; omega), List.getElem?_set_ne (by omega), List.getElem?_set_self hl0]
    · rw [List.getElem?_append_left (by simp; omega), List.getElem?_set_ne (by omega), List.getElem?_set_ne (by omega)]; exact hH1
    · rw [List.getElem?_append_left (by simpa using hl3), List.getElem?_set_self (by simpa using hl3)]; rfl
    · rw [List.getElem?_append_right (by simp)]; simp [pmsA]
  · have s3g : ∀ o Y, ((H.set 0 o).set r .gone ++ Y)[3]? = some (.var [sv m.text, .row r, iv 0, iv 0, sv [], sv [], iv 0, cv 0 0, .v (.slice none 0 0), iv 0, iv m.pos]) := fun o Y => by
      rw [List.getElem?_append_left (by simpa using hl3), List.getElem?_set_ne (by omega), List.getElem?_set_ne (by omega)]; exact hH3
    have gr : ∀ Y, (H ++ Y)[r]? = some (.own 69 3 ps.length (pmsA ps)) := fun Y => by rw [List.getElem?_append_left (List.getElem?_eq_some_iff.1 hr).1]; exact hr
    have sr : ∀ o Y, (H.set 0 o ++ Y)[r]? = some (.own 69 3 ps.length (pmsA ps)) := fun o Y => by rw [List.getElem?_append_left (by simpa using (List.getElem?_eq_some_iff.1 hr).1), List.getElem?_set_ne (by omega)]; exact hr
    have hrl := (List.getElem?_eq_some_iff.1 hr).1
    have hul0 : 0 < ps.length := List.length_pos_iff.2 hu
    have hb1 : (ps.length + 1) * 32 ≤ 140737488355328 := by omega
    have hb2 : ps.length + 1 ≤ 1073741824 := by omega
    have hb3 : ps.length ≤ 1073741823 := by omega
    simp -implicitDefEqProofs [f0, f6, g0', g3, gr, farP, -getElem?_pos]
    refine XC.pr [.ptr 0 0, iv ps.length, iv l.arity] (by simp) (ms := ms) (n := 0) (by first | simp | omega) (by simp [coverQ, f0, g0, -getElem?_pos]) (by simp -implicitDefEqProofs [f0, g0, -getElem?_pos]) (hcn) (by simp [toO, f0, g0, -getElem?_pos]) ⟨0, by simp [f0, g0, -getElem?_pos]⟩ (by simp [lentO, f0, g0, -getElem?_pos]) ?_ (tg := .mk)
    rintro x cs - ⟨y, ms1, rfl, rfl, hS1, hl1⟩
    simp -implicitDefEqProofs [mcells, wrOb, splice, f0, f6, hl0, hl3, s0, s1, s3, sm, sr, hfar, hfar', farP, -getElem?_pos]
    refine XC.pr [.ptr 0 0] (by simp) (ms := ms1) (n := 0) (by first | simp | omega) (by simp [coverQ, f0, s0, -getElem?_pos]) (by simp -implicitDefEqProofs [f0, s0, -getElem?_pos]) (ltyp_sq hS1 (fun w p h => hE w p h)) (by simp [toO, f0, s0, -getElem?_pos]) ⟨0, by simp [f0, s0, -getElem?_pos]⟩ (by simp [lentO, f0, s0, -getElem?_pos]) ?_ (tg := .mk)
    rintro x cs - ⟨t, ms2, rfl, rfl, hS2, hl2⟩
    simp -implicitDefEqProofs [mcells, wrOb, splice, evP, fillA, dz, f0, f6, hl0, hl3, s0, s1, s3, sm, sr, hfar, hfar', hrl, hb1, hb2, hb3, s3g, -getElem?_pos]
    refine hK _ _ ⟨y.text, t, y.pos⟩ ms2 (H.length + 1) (by omega) hS2.end hS2.1 (by simp [f0]) (by simp [f4]) (by simp [f6]) ?_ ?_ (by omega) ?_ ?_
    · rw [List.getElem?_append_left (by simp; omega), List.getElem?_set_ne (by omega), List.getElem?_set_ne (by omega), List.getElem?_set_self hl0]
    · rw [List.getElem?_append_left (by simp; omega), List.getElem?_set_ne (by omega), List.getElem?_set_ne (by omega), List.getElem?_set_ne (by omega)]; exact hH1
    · rw [List.getElem?_append_left (by simpa using hl3), List.getElem?_set_self (by simpa using hl3)]; rfl
    · rw [List.getElem?_append_right (by simp)]; simp [pmsA_snoc]
theorem ldef_ok {k:Nat} (hk:k≤40000) {ms:List M} (hz:Mz ms) (hE:∀ w p,P l (.seq 0 (defIts l k) ms) (.bad w p)→E w p) :
  AM Tryz.prog (Gl G l E) 45 [.ptr 0 0,iv k] (prs l ms 0) (fun x cs=>∃ vs ms' f,P l (.seq 0 (defIts l k) ms) (.ok vs ms')∧defEx vs=some f∧x=.agg (fdA f)∧Mz ms'∧ms'.length < ms.length∧cs=prs l ms' 0):=by
 have hlen:=hz.len
 have hX:HXL G l (ms.length + 1):=HXL_all
 have hS0:SqL l 0 (P l (.seq 0 (defIts l k) ms)) [] [.cn k l.funcs,.w sOpen,.ps,.w sColon,.ty,.w sEq,.e,.w sSemi] ms:=SqL.new (its:=defIts l k) hz
 have hcn:=lcounted_sq (G:=G) (E:=E) hS0 hE
 refine AM.go hmix F_ldef (by simp) ?_
 simp -implicitDefEqProofs [c_ldef,prs]
 refine SC.pr (by simp) [.ptr 0 0,iv k,iv l.funcs] (by simp) (ms:=ms) (n:=0) (by simp -implicitDefEqProofs [prs]) (hcn) (by simp [toO,prs]) ⟨0,by simp [prs]⟩ (by simp [lentO,prs]) ?_ (tg:=.mk)
 rintro x cs - ⟨m,m1,rfl,rfl,hS1,hl1⟩
 simp -implicitDefEqProofs [mcells,wrOb,splice,evP,fillA]
 refine SC.pr (by simp) [.ptr 0 0,.row 4] (by simp) (ms:=m1) (n:=0) (by simp) (lmust1 sOpen hS1 hE) (by simp [toO]) ⟨0,by simp⟩ (by simp [lentO]) ?_ (tg:=.mk)
 rintro x cs - ⟨rfl,m2,rfl,hS2,hl2⟩
 simp -implicitDefEqProofs
 have hEp:∀ w p,P l (.pars [] m2) (.bad w p)→E w p:=fun w p h=>hE w p (hS2.psBad h)
 refine LP.go (LdI l m m2) m2.length ⟨⟨[],m2,_,rfl,hS2.1,by simp,fun r hr=>hr,by simp,by simp [fCells],.inl ⟨rfl,rfl,by simp⟩⟩,by simp,by simp,by simp,by simp⟩ ?_
 rw [ldL_split]
 rintro g F H ⟨⟨ps,ms1,X,rfl,hz1,hl1',hA,hH0,hH3,hR⟩,f0,f4,f6,hH1⟩
 obtain ⟨k1,r1,rfl⟩:=hz1.cons
 have hl0:0 < H.length:=(List.getElem?_eq_some_iff.1 hH0).1
 have hl3:3 < H.length:=(List.getElem?_eq_some_iff.1 hH3).1
 obtain ⟨q,hq⟩:∃ q,isW k1 sClose=q:=⟨_,rfl⟩
 have hmay:=lmay_ap (G:=G) (l:=l) (E:=E) sClose k1 r1 0
 rw [hq] at hmay
 simp -implicitDefEqProofs [f0,ldA,c_ldef_L0]
 refine SC.pr (by simp) [.ptr 0 0,sv sClose] (by simp) (ms:=k1 :: r1) (n:=0) (by simp -implicitDefEqProofs [hH0]) (hmay) (by simp [toO,hH0]) ⟨0,by simp [hH0]⟩ (by simp [lentO,hH0]) ?_ (tg:=.mk)
 rintro x cs - ⟨rfl,rfl⟩
 have hf0:(frzT H [.ptr 0 0,sv sClose]).1=H:=by simp
 rw [hf0]
 cases q
 ·rw [if_neg (by simp),set_same hH0]
  rcases hR with ⟨rfl,rfl,h7⟩ | ⟨r,hr3,rfl,hu,hr,h7⟩
  ·have hS:=pars_first hA hz1 hq
   simp -implicitDefEqProofs [f0,f4,f6,h7,ldB,c_ldef_L0]
   refine ld_rest (by simp) hS hEp (by simp [f0]) (by simp [f4]) (by simp [f6]) hH0 hH1 hH3 (.inl ⟨rfl,rfl⟩) ?_
   intro F' H' p ms' r hl' hA' hz' f0' f4' f6' hH0' hH1' hr3 hH3' hr'
   simp only [List.length_cons] at hl' hl1'
   simp -implicitDefEqProofs [ldC,c_ldef_L0]
   exact ⟨ms'.length,by omega,⟨[]++[p],ms',.row r,rfl,hz',by simp; omega,hA',hH0',hH3',.inr ⟨r,hr3,rfl,by simp,by simpa using hr',by simp⟩⟩,by simp [f0'],by simp [f4'],by simp [f6'],hH1'⟩
  ·have hSc:=pars_comma' hA hz1 hq hu
   have hHg:H[0]'hl0=.var (prs l (k1 :: r1) 0):=(List.getElem?_eq_some_iff.1 hH0).2
   simp -implicitDefEqProofs [f0,f4,f6,h7,ldB,c_ldef_L0,evP,fillA,splice]
   refine SC.pr (by simp) [.ptr 0 0,.row H.length] (by simp) (ms:=k1 :: r1) (n:=0) (by simp -implicitDefEqProofs [hl0,List.getElem_append_left,hHg]) (lmust1 sComma hSc (fun w p h=>hEp w p h)) (by simp [toO,hl0,List.getElem_append_left,hHg]) ⟨0,by simp [hl0,List.getElem_append_left,hHg]⟩ (by simp [lentO,hl0,List.getElem_append_left,hHg]) ?_ (tg:=.mk)
   rintro x cs - ⟨rfl,ms2,rfl,hS2',hl2'⟩
   obtain ⟨hqc,rfl⟩:=hS2'.end
   have hS:=pars_more hA hS2'.1 hu hqc
   simp only [List.length_cons] at hl1'
   simp -implicitDefEqProofs [hl0]
   refine ld_rest (by omega) hS hEp (by simp [f0]) (by simp [f4]) (by simp [f6]) (by rw [List.getElem?_append_left (by simpa using hl0),List.getElem?_set_self hl0]) (by rw [List.getElem?_append_left (by simp; omega),List.getElem?_set_ne (by omega)]; exact hH1) (X:=.row r) (m:=m) (by rw [List.getElem?_append_left (by simpa using hl3),List.getElem?_set_ne (by omega)]; exact hH3) (.inr ⟨r,hr3,rfl,hu,by rw [List.getElem?_append_left (by simpa using (List.getElem?_eq_some_iff.1 hr).1),List.getElem?_set_ne (by omega)]; exact hr⟩) ?_
   intro F' H' p ms' r' hl' hA' hz' f0' f4' f6' hH0' hH1' hr3' hH3' hr'
   simp -implicitDefEqProofs [ldC,c_ldef_L0]
   exact ⟨ms'.length,by omega,⟨ps++[p],ms',.row r',rfl,hz',by simp; omega,hA',hH0',hH3',.inr ⟨r',hr3',rfl,by simp,by simpa using hr',by simp⟩⟩,by simp [f0'],by simp [f4'],by simp [f6'],hH1'⟩
 ·rw [if_pos rfl]
  have hz2:=hz1.tail (isW_kind hq).2.2
  have hP:=hA _ (.pStop ps r1 hq)
  have hS3:=hS2.ps hP hz2
  have hl1q:1 < H.length:=by omega
  have s0:∀ o Y,(H.set 0 o++Y)[0]? = some o:=fun o Y=>by rw [List.getElem?_append_left (by simpa using hl0),List.getElem?_set_self hl0]
  have s1:∀ o Y,(H.set 0 o++Y)[1]? = some (.var [sv [],.v (.slice none 0 0),iv 0,iv 0,sv [],sv [],iv 0,cv 0 0,.v (.slice none 0 0),iv 0,iv 0]):=fun o Y=>by rw [List.getElem?_append_left (by simp; omega),List.getElem?_set_ne (by omega)]; exact hH1
  have u0:∀ a b Y,((H.set 0 a).set 3 b++Y)[0]? = some a:=fun a b Y=>by rw [List.getElem?_append_left (by simp; omega),List.getElem?_set_ne (by omega),List.getElem?_set_self hl0]
  have u1:∀ a b Y,((H.set 0 a).set 3 b++Y)[1]? = some (.var [sv [],.v (.slice none 0 0),iv 0,iv 0,sv [],sv [],iv 0,cv 0 0,.v (.slice none 0 0),iv 0,iv 0]):=fun a b Y=>by rw [List.getElem?_append_left (by simp; omega),List.getElem?_set_ne (by omega),List.getElem?_set_ne (by omega)]; exact hH1
  have u3:∀ a b Y,((H.set 0 a).set 3 b++Y)[3]? = some b:=fun a b Y=>by rw [List.getElem?_append_left (by simpa using hl3),List.getElem?_set_self (by simpa using hl3)]
  have c03:∀ a b a',((H.set 0 a).set 3 b).set 0 a'=(H.set 0 a').set 3 b:=fun a b a'=>by rw [List.set_comm _ _ (by omega),List.set_set]
  have i1:∀ a b x y Y,((H.set 0 a).set 3 b++x :: y :: Y)[H.length + 1]? = some y:=fun a b x y Y=>by rw [List.getElem?_append_right (by simp)]; simp
  have i2:∀ a b x y z Y,((H.set 0 a).set 3 b++x :: y :: z :: Y)[H.length + 2]? = some z:=fun a b x y z Y=>by rw [List.getElem?_append_right (by simp)]; simp
  have v0:∀ a b c Y,(((H.set 0 a).set 3 b).set 1 c++Y)[0]? = some a:=fun a b c Y=>by rw [List.getElem?_append_left (by simp; omega),List.getElem?_set_ne (by omega),List.getElem?_set_ne (by omega),List.getElem?_set_self hl0]
  have v1:∀ a b c Y,(((H.set 0 a).set 3 b).set 1 c++Y)[1]? = some c:=fun a b c Y=>by rw [List.getElem?_append_left (by simp; omega),List.getElem?_set_self (by simp; omega)]
  simp only [List.length_cons] at hl1'
  rcases hR with ⟨rfl,rfl,h7⟩ | ⟨r,hr3,rfl,hu,hr,h7⟩
  ·have s3:∀ o Y,(H.set 0 o++Y)[3]? = some (.var [sv m.text,.v (.slice none 0 0),iv 0,iv 0,sv [],sv [],iv 0,cv 0 0,.v (.slice none 0 0),iv 0,iv m.pos]):=fun o Y=>by rw [List.getElem?_append_left (by simpa using hl3),List.getElem?_set_ne (by omega)]; exact hH3
   simp -implicitDefEqProofs [f0,f4,f6,evP,fillA,splice]
   refine SC.pr (by simp) [.ptr 0 0,.row H.length] (by simp) (ms:=r1) (n:=0) (by simp -implicitDefEqProofs [s0,hl0,-getElem?_pos]) (lmust1 sColon hS3 hE) (by simp [toO,s0,hl0,-getElem?_pos]) ⟨0,by simp [s0,hl0,-getElem?_pos]⟩ (by simp [lentO,s0,hl0,-getElem?_pos]) ?_ (tg:=.mk)
   rintro x cs - ⟨rfl,m4,rfl,hS4,hl4⟩
   simp -implicitDefEqProofs [f0,f4,f6,evP,fillA,splice,wrOb,hl0,hl1q,hl3,s0,s1,s3,u0,u1,u3,i1,i2,c03,-getElem?_pos]
   refine SC.pr (by simp) [.ptr 0 0] (by simp) (ms:=m4) (n:=0) (by simp -implicitDefEqProofs [s0,hl0,-getElem?_pos]) (ltyp_sq hS4 hE) (by simp [toO,s0,hl0,-getElem?_pos]) ⟨0,by simp [s0,hl0,-getElem?_pos]⟩ (by simp [lentO,s0,hl0,-getElem?_pos]) ?_ (tg:=.mk)
   rintro x cs - ⟨t,m5,rfl,rfl,hS5,hl5⟩
   simp -implicitDefEqProofs [f0,f4,f6,evP,fillA,splice,wrOb,hl0,hl1q,hl3,s0,s1,s3,u0,u1,u3,i1,i2,c03,-getElem?_pos]
   refine SC.pr (by simp) [.ptr 0 0,.row (H.length + 1)] (by simp) (ms:=m5) (n:=0) (by simp -implicitDefEqProofs [u0,i1,hl0,-getElem?_pos]) (lmust1 sEq hS5 hE) (by simp [toO,u0,i1,hl0,-getElem?_pos]) ⟨0,by simp [u0,i1,hl0,-getElem?_pos]⟩ (by simp [lentO,u0,i1,hl0,-getElem?_pos]) ?_ (tg:=.mk)
   rintro x cs - ⟨rfl,m6,rfl,hS6,hl6⟩
   simp -implicitDefEqProofs [f0,f4,f6,evP,fillA,splice,wrOb,hl0,hl1q,hl3,s0,s1,s3,u0,u1,u3,i1,i2,c03,-getElem?_pos]
   refine SC.pr (by simp) [.ptr 0 0] (by simp) (ms:=m6) (n:=0) (by simp -implicitDefEqProofs [u0,hl0,-getElem?_pos]) (lexpr_sq hX (by omega) hS6 (by omega) (by omega) hE) (by simp [toO,u0,hl0,-getElem?_pos]) ⟨0,by simp [u0,hl0,-getElem?_pos]⟩ (by simp [lentO,u0,hl0,-getElem?_pos]) ?_ (tg:=.mk)
   rintro x cs - ⟨e,m7,rfl,rfl,hS7,hl7⟩
   obtain ⟨o,nm,tl,ty,num,args,pos⟩:=e
   simp -implicitDefEqProofs [exA,Ex.cells,f0,f4,f6,evP,fillA,splice,wrOb,hl0,hl1q,hl3,s0,s1,s3,u0,u1,u3,i1,i2,c03,-getElem?_pos]
   refine SC.pr (by simp) [.ptr 0 0,.row (H.length + 2)] (by simp) (ms:=m7) (n:=0) (by simp -implicitDefEqProofs [u0,i2,hl0,-getElem?_pos]) (lmust1 sSemi hS7 hE) (by simp [toO,u0,i2,hl0,-getElem?_pos]) ⟨0,by simp [u0,i2,hl0,-getElem?_pos]⟩ (by simp [lentO,u0,i2,hl0,-getElem?_pos]) ?_ (tg:=.mk)
   rintro x cs - ⟨rfl,m8,rfl,hS8,hl8⟩
   simp -implicitDefEqProofs [finM,v0,v1,f0,f4,f6,evP,fillA,splice,wrOb,hl0,hl1q,hl3,s0,s1,s3,u0,u1,u3,i1,i2,c03,-getElem?_pos]
   exact ⟨by simp [prs],_,m8,hS8.end,⟨m.text,[],t,.mk o nm tl ty num args pos,m.pos⟩,rfl,by simp [fdA,Ex.cells,pmsA],hS8.1,by omega,rfl⟩
  ·have hrl:=(List.getElem?_eq_some_iff.1 hr).1
   have sr:∀ o Y,(H.set 0 o++Y)[r]? = some (.own 69 3 ps.length (pmsA ps)):=fun o Y=>by rw [List.getElem?_append_left (by simpa using hrl),List.getElem?_set_ne (by omega)]; exact hr
   have ur:∀ a b Y,((H.set 0 a).set 3 b++Y)[r]? = some (.own 69 3 ps.length (pmsA ps)):=fun a b Y=>by rw [List.getElem?_append_left (by simpa using hrl),List.getElem?_set_ne (by omega),List.getElem?_set_ne (by omega)]; exact hr
   have vr:∀ a b c Y,(((H.set 0 a).set 3 b).set 1 c++Y)[r]? = some (.own 69 3 ps.length (pmsA ps)):=fun a b c Y=>by rw [List.getElem?_append_left (by simpa using hrl),List.getElem?_set_ne (by omega),List.getElem?_set_ne (by omega),List.getElem?_set_ne (by omega)]; exact hr
   have w0:∀ a b c d Y,((((H.set 0 a).set 3 b).set 1 c).set r d++Y)[0]? = some a:=fun a b c d Y=>by rw [List.getElem?_append_left (by simp; omega),List.getElem?_set_ne (by omega),List.getElem?_set_ne (by omega),List.getElem?_set_ne (by omega),List.getElem?_set_self hl0]
   have s3:∀ o Y,(H.set 0 o++Y)[3]? = some (.var [sv m.text,.row r,iv 0,iv 0,sv [],sv [],iv 0,cv 0 0,.v (.slice none 0 0),iv 0,iv m.pos]):=fun o Y=>by rw [List.getElem?_append_left (by simpa using hl3),List.getElem?_set_ne (by omega)]; exact hH3
   simp -implicitDefEqProofs [f0,f4,f6,evP,fillA,splice]
   refine SC.pr (by simp) [.ptr 0 0,.row H.length] (by simp) (ms:=r1) (n:=0) (by simp -implicitDefEqProofs [s0,hl0,-getElem?_pos]) (lmust1 sColon hS3 hE) (by simp [toO,s0,hl0,-getElem?_pos]) ⟨0,by simp [s0,hl0,-getElem?_pos]⟩ (by simp [lentO,s0,hl0,-getElem?_pos]) ?_ (tg:=.mk)
   rintro x cs - ⟨rfl,m4,rfl,hS4,hl4⟩
   simp -implicitDefEqProofs [f0,f4,f6,evP,fillA,splice,wrOb,hl0,hl1q,hl3,s0,s1,s3,u0,u1,u3,i1,i2,c03,-getElem?_pos,sr,ur,vr,w0,hrl]
   refine SC.pr (by simp) [.ptr 0 0] (by simp) (ms:=m4) (n:=0) (by simp -implicitDefEqProofs [s0,hl0,-getElem?_pos]) (ltyp_sq hS4 hE) (by simp [toO,s0,hl0,-getElem?_pos]) ⟨0,by simp [s0,hl0,-getElem?_pos]⟩ (by simp [lentO,s0,hl0,-getElem?_pos]) ?_ (tg:=.mk)
   rintro x cs - ⟨t,m5,rfl,rfl,hS5,hl5⟩
   simp -implicitDefEqProofs [f0,f4,f6,evP,fillA,splice,wrOb,hl0,hl1q,hl3,s0,s1,s3,u0,u1,u3,i1,i2,c03,-getElem?_pos,sr,ur,vr,w0,hrl]
   refine SC.pr (by simp) [.ptr 0 0,.row (H.length + 1)] (by simp) (ms:=m5) (n:=0) (by simp -implicitDefEqProofs [u0,i1,hl0,-getElem?_pos]) (lmust1 sEq hS5 hE) (by simp [toO,u0,i1,hl0,-getElem?_pos]) ⟨0,by simp [u0,i1,hl0,-getElem?_pos]⟩ (by simp [lentO,u0,i1,hl0,-getElem?_pos]) ?_ (tg:=.mk)
   rintro x cs - ⟨rfl,m6,rfl,hS6,hl6⟩
   simp -implicitDefEqProofs [f0,f4,f6,evP,fillA,splice,wrOb,hl0,hl1q,hl3,s0,s1,s3,u0,u1,u3,i1,i2,c03,-getElem?_pos,sr,ur,vr,w0,hrl]
   refine SC.pr (by simp) [.ptr 0 0] (by simp) (ms:=m6) (n:=0) (by simp -implicitDefEqProofs [u0,hl0,-getElem?_pos]) (lexpr_sq hX (by omega) hS6 (by omega) (by omega) hE) (by simp [toO,u0,hl0,-getElem?_pos]) ⟨0,by simp [u0,hl0,-getElem?_pos]⟩ (by simp [lentO,u0,hl0,-getElem?_pos]) ?_ (tg:=.mk)
   rintro x cs - ⟨e,m7,rfl,rfl,hS7,hl7⟩
   obtain ⟨o,nm,tl,ty,num,args,pos⟩:=e
   simp -implicitDefEqProofs [exA,Ex.cells,f0,f4,f6,evP,fillA,splice,wrOb,hl0,hl1q,hl3,s0,s1,s3,u0,u1,u3,i1,i2,c03,-getElem?_pos,sr,ur,vr,w0,hrl]
   refine SC.pr (by simp) [.ptr 0 0,.row (H.length + 2)] (by simp) (ms:=m7) (n:=0) (by simp -implicitDefEqProofs [u0,i2,hl0,-getElem?_pos]) (lmust1 sSemi hS7 hE) (by simp [toO,u0,i2,hl0,-getElem?_pos]) ⟨0,by simp [u0,i2,hl0,-getElem?_pos]⟩ (by simp [lentO,u0,i2,hl0,-getElem?_pos]) ?_ (tg:=.mk)
   rintro x cs - ⟨rfl,m8,rfl,hS8,hl8⟩
   simp -implicitDefEqProofs [finM,v0,v1,f0,f4,f6,evP,fillA,splice,wrOb,hl0,hl1q,hl3,s0,s1,s3,u0,u1,u3,i1,i2,c03,-getElem?_pos,sr,ur,vr,w0,hrl]
   exact ⟨by simp [prs],_,m8,hS8.end,⟨m.text,ps,t,.mk o nm tl ty num args pos,m.pos⟩,rfl,by simp [fdA,Ex.cells,pmsA],hS8.1,by omega,rfl⟩
end
end Go.Proofs.YtgddkgbidhhheaaGreatDoor
